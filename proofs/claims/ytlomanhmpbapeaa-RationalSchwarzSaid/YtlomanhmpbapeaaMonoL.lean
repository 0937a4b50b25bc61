/- The order-free law of a drawn region, where one operation that hangs on no world may come up behind the store. -/
import Derived.Test.YtlomanhmpbapeaaMono
namespace Go.Proofs.Ytlomanhmpbapeaa
open Go.RowKit

section
variable {P : Program} {ops : Array Oper} {Q : Exit → Act → World → Prop} {a0 : Act} {vals : Nat → Value}
/-- The same, but operation j0, which hangs on no world, may come up later. The first n operations of the region may be walked in the text's order; those behind them come up last, one after the other. -/
def headBL (ops : Array Oper) (n N j0 : Nat) : Bool :=
  Region.noSelect ops && decide (n ≤ ops.size) && ((List.range n).all fun j => dstB N (opDst ops j) && ((opEdges ops j).all fun e => decide (e < j)) && ((List.range j).all fun i => pairB ops i j)) &&
    ((List.range ops.size).all fun j => decide (j < n) || ((List.range n).all fun i => decide (i = j0) || (reach ops j (opEdges ops j)).contains i))
def lateB (ops : Array Oper) (n j0 k0 : Nat) (d0 : Tmp) : Bool :=
  decide (k0 < j0) && decide (j0 < n) && (opDst ops k0 == some d0) && (opEdges ops j0).contains k0 &&
    ((List.range ops.size).all fun k => decide (k < n) || match ops[j0]?, ops[k]? with | some oj, some ok => (opEdges ops k).contains j0 || oj.apart ops ok | _, _ => false)
theorem apart_symm {x y : Oper} (h : x.apart ops y = true) (hne : x.dst ≠ y.dst) : y.apart ops x = true := by
  obtain ⟨h1, _, h3⟩ := Oper.apart_spec h
  unfold Oper.apart
  rw [Bool.and_eq_true]
  constructor
  · cases hy : y.dst with
    | none => rfl
    | some d =>
      have a1 := h3 d hy
      have a2 : x.dst ≠ some d := fun e => hne (by rw [e, hy])
      simp [a1, a2]
  · cases hx : x.dst with
    | none => rfl
    | some d =>
      have a1 := h1 d hx
      simp [a1]
theorem fill_at {L : Nat → Bool} {k0 : Nat} {d0 : Tmp} (hd : opDst ops k0 = some d0) (hL : L k0 = true) (hs : d0 < a0.tmps.size) : ∀ n, k0 < n → (∀ j, j < n → j ≠ k0 → opDst ops j ≠ some d0) → (fill ops L vals a0 n).tmps[d0]? = some (vals k0)
  | 0, h, _ => by omega
  | n + 1, h, hdist => by
    simp only [fill]
    by_cases hn : n = k0
    · subst hn
      rw [if_pos hL, hd]
      simp [Act.put, fill_size, hs]
    · have ih := fill_at (L := L) hd hL hs n (by omega) (fun j hj => hdist j (by omega))
      split
      · rw [put_get_ne (hdist n (by omega) hn)]
        exact ih
      · exact ih

theorem headBL_spec {n N j0 : Nat} (h : headBL ops n N j0 = true) : Region.noSelect ops = true ∧ n ≤ ops.size ∧
    (∀ j, j < n → (∃ d, opDst ops j = some d ∧ d < N) ∧ (∀ e ∈ opEdges ops j, e < j) ∧ ∀ i, i < j → ∃ oi oj, ops[i]? = some oi ∧ ops[j]? = some oj ∧ (i ∈ opEdges ops j ∨ oi.apart ops oj = true) ∧ oi.dst ≠ oj.dst) ∧
    (∀ j, n ≤ j → j < ops.size → ∀ i, i < n → i ≠ j0 → i ∈ reach ops j (opEdges ops j)) := by
  simp only [headBL, Bool.and_eq_true, decide_eq_true_eq, List.all_eq_true, List.mem_range, Bool.or_eq_true, List.contains_iff_mem] at h
  obtain ⟨⟨⟨h1, h2⟩, h3⟩, h4⟩ := h
  refine ⟨h1, h2, fun j hj => ?_, fun j hj hjs i hi hne => ?_⟩
  · obtain ⟨⟨h5, h6⟩, h7⟩ := h3 j hj
    refine ⟨?_, h6, fun i hi => ?_⟩
    · cases hd : opDst ops j with
      | none => rw [hd] at h5; cases h5
      | some d => rw [hd] at h5; exact ⟨d, rfl, by simpa [dstB] using h5⟩
    · have := h7 i hi
      unfold pairB at this
      cases hoi : ops[i]? with
      | none => simp [hoi] at this
      | some oi =>
        cases hoj : ops[j]? with
        | none => simp [hoi, hoj] at this
        | some oj =>
          simp only [hoi, hoj, Bool.and_eq_true, Bool.or_eq_true, List.contains_iff_mem, bne_iff_ne, ne_eq] at this
          exact ⟨oi, oj, rfl, rfl, this.1, this.2⟩
  · rcases h4 j hjs with h5 | h5
    · omega
    · rcases h5 i hi with h6 | h6
      · exact absurd h6 hne
      · exact h6

theorem tab_anyL {Φ : World → Prop} {n N j0 k0 : Nat} {d0 : Tmp} {PS : Nat → Value → World → Prop} (hB : headBL ops n N j0 = true) (hLate : lateB ops n j0 k0 d0 = true) (hd0 : d0 < N) (hN : a0.tmps.size = N)
    (hΦ : ∀ w w', Below w.heap.size w w' → Φ w → Φ w')
    (hstep : ∀ vals i o, i < n → ops[i]? = some o → (∀ v w w', Below w.heap.size w w' → PS i v w → PS i v w') ∧
      ∀ w, Φ w → (∀ j, j < i → looksB ops o (opDst ops j) = true → PS j (vals j) w) → stepM P ops o (fill ops (fun _ => true) vals a0 i) w (PS i))
    (hpure : ∀ (a : Act) (o : Oper) (v : Value) w, ops[j0]? = some o → Φ w → PS k0 v w → a.eval (.tmp d0) = v → ∃ u, Yields P ops o u a ∧ PS j0 u w)
    (hQ : ∀ c a d v w, Q (.panic c) (a.put d v) w → Q (.panic c) a w)
    (hend : ∀ (vals : Nat → Value) (listed : Array Bool) w, listed.size = ops.size → (∀ j, j < ops.size → listed.getD j true = decide (j < n)) → Φ w → (∀ j, j < n → PS j (vals j) w) → wpAny P .any ops Q (ops.size - n) listed (fill ops (fun _ => true) vals a0 n) w) :
    ∀ (m : Nat) (listed : Array Bool) (vals : Nat → Value) (w : World), missing (fun j => listed.getD j true) n = m → listed.size = ops.size → (∀ j, n ≤ j → j < ops.size → listed.getD j true = false) →
      (∀ j, j < n → listed.getD j true = true → ∀ e ∈ opEdges ops j, listed.getD e true = true) → Φ w → (∀ j, j < n → listed.getD j true = true → PS j (vals j) w) →
      wpAny P .any ops Q (m + (ops.size - n)) listed (fill ops (fun j => listed.getD j true) vals a0 n) w := by
  obtain ⟨hB1, hB2, hB3, hB4⟩ := headBL_spec hB
  simp only [lateB, Bool.and_eq_true, decide_eq_true_eq, beq_iff_eq, List.contains_iff_mem, List.all_eq_true, List.mem_range, Bool.or_eq_true] at hLate
  obtain ⟨⟨⟨⟨hl1, hl2⟩, hl3⟩, hl4⟩, hl5⟩ := hLate
  intro m
  induction m with
  | zero =>
    intro listed vals w hm hsz ht hc hw hp
    have hall := missing_zero hm
    rw [Nat.zero_add, fill_congr (L' := fun _ => true) (vals' := vals) n (fun j hj => hall j hj) (fun _ _ _ => rfl)]
    refine hend vals listed w hsz (fun j hj => ?_) hw (fun j hj => hp j hj (hall j hj))
    by_cases hjn : j < n
    · rw [hall j hjn]; simp [hjn]
    · rw [ht j (by omega) hj]; simp [hjn]
  | succ m ih =>
    intro listed vals w hm hsz ht hc hw hp
    rw [show m + 1 + (ops.size - n) = m + (ops.size - n) + 1 by omega]
    have hsame : ∀ e, e < ops.size → listed.getD e false = listed.getD e true := fun e he => by
      simp [Array.getD_eq_getD_getElem?, Array.getElem?_eq_getElem (show e < listed.size by omega)]
    have next : ∀ i o v w', i < n → ops[i]? = some o → listed.getD i true = false → (∀ e ∈ opEdges ops i, listed.getD e true = true) → Below w.heap.size w w' → PS i v w' → wpAny P .any ops Q (m + (ops.size - n)) (listed.setIfInBounds i true) ((fill ops (fun j => listed.getD j true) vals a0 n).put o.dst v) w' := by
      intro i o v w' hin ho hun hedges hbw hpv
      obtain ⟨⟨d, hd, hdN⟩, he, hpair⟩ := hB3 i hin
      have hod : o.dst = some d := by simpa [opDst, ho] using hd
      have e2 : ∀ j, (listed.setIfInBounds i true).getD j true = (listed.getD j true || j == i) := fun j => by
        by_cases hji : j = i
        · subst hji
          simp [Array.getD_eq_getD_getElem?, show j < listed.size by omega]
        · rw [Go.getD_set_ne true (Ne.symm hji)]
          simp [hji]
      have e3 : (fun j => (listed.setIfInBounds i true).getD j true) = fun j => listed.getD j true || j == i := funext e2
      have hih := ih (listed.setIfInBounds i true) (fun j => if j = i then v else vals j) w' (by rw [e3]; have := (missing_set (L := fun j => listed.getD j true) (i := i) hun n).1; rw [if_pos hin] at this; omega) (by simp [hsz])
        (fun j hj hjs => by rw [e2, ht j hj hjs]; simp; omega)
        (fun j hj hL e hee => by
          rw [e2] at hL ⊢
          by_cases hji : j = i
          · subst hji
            rw [hedges e hee]; rfl
          · have : listed.getD j true = true := by simpa [hji] using hL
            rw [hc j hj this e hee]; rfl)
        (hΦ w w' hbw hw)
        (fun j hj hL => by
          by_cases hji : j = i
          · subst hji
            simpa using hpv
          · simp only [if_neg hji]
            rw [e2] at hL
            exact (hstep vals j _ hj (Array.getElem?_eq_getElem (show j < ops.size by omega))).1 _ w w' hbw (hp j hj (by simpa [hji] using hL)))
      rw [e3, fill_set (L := fun j => listed.getD j true) hun n (fun j hj hji d' hd' hdj => ?_), if_pos hin, hd, ← hod] at hih
      · exact hih
      · rcases Nat.lt_or_ge i j with h | h
        · obtain ⟨oi, oj, hoi, hoj, _, h2⟩ := (hB3 j hj).2.2 i h
          simp only [opDst, hoi, hoj, Option.bind_some] at hd' hdj
          exact h2 (hd'.trans hdj.symm)
        · obtain ⟨oj, oi, hoj, hoi, _, h2⟩ := hpair j (by omega)
          simp only [opDst, hoi, hoj, Option.bind_some] at hd' hdj
          exact h2 (hdj.trans hd'.symm)
    by_cases hready : listed.getD j0 true = false ∧ ∀ e ∈ opEdges ops j0, listed.getD e true = true
    · obtain ⟨hun, hedges⟩ := hready
      obtain ⟨o, ho⟩ : ∃ o, ops[j0]? = some o := ⟨_, Array.getElem?_eq_getElem (show j0 < ops.size by omega)⟩
      have hk := hedges k0 hl4
      obtain ⟨⟨dk, hdk, _⟩, _, hpk⟩ := hB3 k0 (by omega)
      have hev : (fill ops (fun j => listed.getD j true) vals a0 n).eval (.tmp d0) = vals k0 := by
        have := fill_at (L := fun j => listed.getD j true) (vals := vals) (a0 := a0) hl3 hk (by rw [hN]; exact hd0) n (by omega) (fun j hj hjk hdj => by
          rcases Nat.lt_or_ge j k0 with h | h
          · obtain ⟨oi, oj, hoi, hoj, _, h2⟩ := hpk j h
            simp only [opDst, hoi, hoj, Option.bind_some] at hdj hl3
            exact h2 (hdj.trans hl3.symm)
          · obtain ⟨oi, oj, hoi, hoj, _, h2⟩ := (hB3 j hj).2.2 k0 (by omega)
            simp only [opDst, hoi, hoj, Option.bind_some] at hdj hl3
            exact h2 (hl3.trans hdj.symm))
        show (fill ops (fun j => listed.getD j true) vals a0 n).tmps.getD d0 undef = vals k0
        rw [Array.getD_eq_getD_getElem?, this]
        rfl
      obtain ⟨u, hy, hpu⟩ := hpure _ o (vals k0) w ho hw (hp k0 (by omega) hk) hev
      refine wpAny_first ho (Region.noSelect_spec hB1) (fun c a w => hQ c a _ _ w) _ listed _ w (fun k ok hok hkj hkun hno => ?_) (mem_ready.2 ⟨hun, o, ho, fun e he hb => ?_⟩) hy (next j0 o u w hl2 ho hun hedges (Below.refl _ _) hpu)
      · have hks : k < ops.size := (Array.getElem?_eq_some_iff.1 hok).1
        have hnoE : j0 ∉ opEdges ops k := fun h => by
          obtain ⟨x, hx, hb, e⟩ := (mem_opEdges hok).1 h
          exact hno x hx hb e
        by_cases hkn : k < n
        · rcases Nat.lt_or_ge k j0 with h | h
          · obtain ⟨oi, oj, hoi, hoj, h1, h2⟩ := (hB3 j0 hl2).2.2 k h
            obtain rfl : oj = o := Option.some.inj (hoj.symm.trans ho)
            obtain rfl : oi = ok := Option.some.inj (hoi.symm.trans hok)
            rcases h1 with h1 | h1
            · have := hedges k h1
              rw [hkun] at this
              cases this
            · exact apart_symm h1 h2
          · obtain ⟨oi, oj, hoi, hoj, h1, h2⟩ := (hB3 k hkn).2.2 j0 (by omega)
            obtain rfl : oi = o := Option.some.inj (hoi.symm.trans ho)
            obtain rfl : oj = ok := Option.some.inj (hoj.symm.trans hok)
            rcases h1 with h1 | h1
            · exact absurd h1 hnoE
            · exact h1
        · have := hl5 k hks
          simp only [hkn, false_or, ho, hok, Bool.or_eq_true, List.contains_iff_mem] at this
          rcases this with h1 | h1
          · exact absurd h1 hnoE
          · exact h1
      · have hlt := (hB3 j0 hl2).2.1 e.on ((mem_opEdges ho).2 ⟨e, he, hb, rfl⟩)
        rw [hsame e.on (by omega)]
        exact hedges e.on ((mem_opEdges ho).2 ⟨e, he, hb, rfl⟩)
    refine ⟨fun hr => ?_, fun i hi => ?_⟩
    · obtain ⟨j, hj, h1, h2⟩ := missing_pos (L := fun j => listed.getD j true) (n := n) (by omega)
      obtain ⟨oj, hoj⟩ : ∃ o, ops[j]? = some o := ⟨_, Array.getElem?_eq_getElem (show j < ops.size by omega)⟩
      have : j ∈ Region.ready .any ops listed := mem_ready.2 ⟨h1, oj, hoj, fun e he hb => by
        have hlt := (hB3 j hj).2.1 e.on ((mem_opEdges hoj).2 ⟨e, he, hb, rfl⟩)
        rw [hsame e.on (by omega)]
        exact h2 e.on hlt⟩
      rw [hr] at this
      cases this
    · obtain ⟨hun, o, ho, hedge⟩ := mem_ready.1 hi
      have his : i < ops.size := (Array.getElem?_eq_some_iff.1 ho).1
      have hedges : ∀ e ∈ opEdges ops i, listed.getD e true = true := fun e he => by
        obtain ⟨x, hx, hb, rfl⟩ := (mem_opEdges ho).1 he
        have h1 := hedge x hx hb
        simp only [Array.getD_eq_getD_getElem?] at h1 ⊢
        cases hg : listed[x.on]? with
        | none => rfl
        | some b => rw [hg] at h1; exact h1
      by_cases hin : i < n
      · obtain ⟨⟨d, hd, hdN⟩, he, hpair⟩ := hB3 i hin
        have hod : o.dst = some d := by simpa [opDst, ho] using hd
        obtain ⟨hlast, hst⟩ := hstep vals i o hin ho
        have hlook : ∀ j, j < i → looksB ops o (opDst ops j) = true → listed.getD j true = true := fun j hj hl => by
          obtain ⟨oj, oi, hoj, hoi, h1, h2⟩ := hpair j hj
          obtain rfl : oi = o := Option.some.inj (hoi.symm.trans ho)
          rcases h1 with h1 | h1
          · exact hedges j h1
          · obtain ⟨h3, _, _⟩ := Oper.apart_spec h1
            cases hdj : oj.dst with
            | none => simp [looksB, opDst, hoj, hdj] at hl
            | some dj =>
              simp [looksB, opDst, hoj, hdj] at hl
              exact absurd hl (h3 dj hdj)
        have hM := hst w hw (fun j hj hl => hp j (by omega) (hlook j hj hl))
        refine stepM.move (a := fill ops (fun _ => true) vals a0 i) hod (by rw [fill_size, hN]; exact hdN) (Region.noSelect_spec hB1 i o · · ho) (fun t ht' => ?_) hM ho (fun v w' hpv hbw => ?_)
        · have e1 : fill ops (fun _ => true) vals a0 i = fill ops (fun j => decide (j < i)) vals a0 n := by
            have h1 : ∀ k, i + k ≤ n → fill ops (fun j => decide (j < i)) vals a0 (i + k) = fill ops (fun _ => true) vals a0 i := by
              intro k
              induction k with
              | zero => intro _; exact fill_congr _ (fun j hj => by simpa using hj) (fun _ _ _ => rfl)
              | succ k ihk =>
                intro hk
                rw [← Nat.add_assoc]
                simp only [fill]
                rw [if_neg (by simp), ihk (by omega)]
            have := h1 (n - i) (by omega)
            rw [show i + (n - i) = n by omega] at this
            exact this.symm
          rw [e1]
          refine fill_get n fun j hj hne hdj => ?_
          by_cases hji : j < i
          · have hlt := hlook j hji (by simp [looksB, hdj, ht'])
            simp [hji, hlt] at hne
          · have hL : listed.getD j true = true := by
              cases hL : listed.getD j true
              · simp [hji, hL] at hne
              · rfl
            have hji2 : i < j := by
              rcases Nat.lt_or_ge i j with h | h
              · exact h
              · have : j = i := by omega
                rw [this, hun] at hL
                cases hL
            obtain ⟨oi, oj, hoi, hoj, h1, h2⟩ := (hB3 j hj).2.2 i hji2
            obtain rfl : oi = o := Option.some.inj (hoi.symm.trans ho)
            rcases h1 with h1 | h1
            · have := hc j hj hL i h1
              rw [hun] at this
              cases this
            · obtain ⟨_, _, h3⟩ := Oper.apart_spec h1
              exact h3 t (by simpa [opDst, hoj] using hdj) ht'
        · exact next i o v w' hin ho hun hedges hbw hpv
      · have hL := reach_listed (ops := ops) (L := fun j => listed.getD j true) (fun j hj e hee => ?_) i (opEdges ops i) hedges
        · obtain ⟨j, hj, h1, h2⟩ := missing_pos (L := fun j => listed.getD j true) (n := n) (by omega)
          by_cases hjj : j = j0
          · subst hjj
            exact absurd ⟨h1, fun e he => h2 e ((hB3 j hj).2.1 e he)⟩ hready
          · have := hL j (hB4 i (by omega) his j hj hjj)
            rw [h1] at this
            cases this
        · by_cases hjn : j < n
          · exact hc j hjn hj e hee
          · by_cases hjs : j < ops.size
            · rw [ht j (by omega) hjs] at hj
              cases hj
            · simp [opEdges, Array.getElem?_eq_none (show ops.size ≤ j by omega)] at hee

theorem wp_region_tabL {id : Nat} {l : List Oper} {w : World} (n N j0 k0 : Nat) (d0 : Tmp) (ps : List (Value → World → Prop)) (Φ : World → Prop) (hm : P.follows .mixedOrders = true) (hB : headBL l.toArray n N j0 = true) (hLate : lateB l.toArray n j0 k0 d0 = true) (hd0 : d0 < N)
    (hS : Region.seqB .any l.toArray (l.length - n) n (headDone n (l.length - n)) = true) (hN : a0.tmps.size = N) (hΦ : ∀ w w', Below w.heap.size w w' → Φ w → Φ w') (h0 : Φ w.drew)
    (hpure : ∀ (a : Act) (o : Oper) (v : Value) w, l[j0]? = some o → Φ w → ps.getD k0 (fun _ _ => True) v w → a.eval (.tmp d0) = v → ∃ u, Yields P l.toArray o u a ∧ ps.getD j0 (fun _ _ => True) u w)
    (hQ : ∀ c a d v w, Q (.panic c) (a.put d v) w → Q (.panic c) a w)
    (h : Tab P l.toArray Φ Q (l.drop n) (l.take n) ps [] a0) : (Code.region id l.toArray true).wp P Q a0 w := by
  obtain ⟨_, hn, _, _⟩ := headBL_spec hB
  have hn' : n ≤ l.length := by simpa using hn
  have hout := fun vals => Tab.out (ops := l.toArray) (a0 := a0) (PS := fun i => ps.getD i (fun _ _ => True)) vals (l.take n) ps [] 0 n (by simp; omega) (fun j hj => by
      simp at hj
      simp [show j < n by omega])
    (fun j p hj => by simp [List.getD_eq_getElem?_getD, hj]) (fun d hd => by cases hd) h
  refine wp_region_any hm ?_
  have H := tab_anyL (ops := l.toArray) (P := P) (Q := Q) (a0 := a0) (Φ := Φ) (n := n) (N := N) (PS := fun i => ps.getD i (fun _ _ => True)) hB hLate hd0 hN hΦ
    (fun vals i o hi ho => (hout vals).1 i o (by omega) hi ho)
    (fun a o v w ho => hpure a o v w (by simpa using ho)) hQ
    (fun vals listed w' hsz hl hw hp => by
      have hlist : listed = headDone n (l.length - n) := by
        refine Array.ext_getElem? fun j => ?_
        by_cases hj : j < l.length
        · have h1 := hl j (by simpa using hj)
          rw [Array.getD_eq_getD_getElem?, Array.getElem?_eq_getElem (show j < listed.size by simpa [hsz] using hj)] at h1
          rw [Array.getElem?_eq_getElem (show j < listed.size by simpa [hsz] using hj)]
          simp only [Option.getD_some] at h1
          rw [h1]
          simp only [headDone, List.getElem?_toArray, List.getElem?_append, List.length_replicate, List.getElem?_replicate]
          by_cases hjn : j < n
          · simp [hjn]
          · simp [hjn, show j - n < l.length - n by omega]
        · rw [Array.getElem?_eq_none (by simp [hsz]; omega), headDone, List.getElem?_toArray, List.getElem?_eq_none (by simp; omega)]
      have := wpAny_of_seq (md := .any) (P := P) (ops := l.toArray) (Q' := Q) (l.drop n) n listed (fill l.toArray (fun _ => true) vals a0 n) w' (fun j => by simp [List.getElem?_drop]) (by rw [hlist]; simpa using hS) ((hout vals).2 w' hw hp)
      simpa using this)
    n (Array.replicate l.length false) (fun _ => undef) w.drew
    (missing_all n fun j hj => by simp [Array.getD_eq_getD_getElem?, show j < l.length by omega]) (by simp)
    (fun j hj hjs => by simp at hjs; simp [Array.getD_eq_getD_getElem?, hjs])
    (fun j hj hL => by simp [Array.getD_eq_getD_getElem?, show j < l.length by omega] at hL) h0
    (fun j hj hL => by simp [Array.getD_eq_getD_getElem?, show j < l.length by omega] at hL)
  rw [fill_none n (fun j hj => by simp [Array.getD_eq_getD_getElem?, show j < l.length by omega])] at H
  have e : n + (l.toArray.size - n) = l.toArray.size := by simp; omega
  rw [e] at H
  simpa using H
end
end Go.Proofs.Ytlomanhmpbapeaa
