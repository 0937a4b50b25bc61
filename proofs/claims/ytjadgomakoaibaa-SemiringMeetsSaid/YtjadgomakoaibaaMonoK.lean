/- The order-free law of a drawn region, where the first two operations, which hang on no world, are taken first. -/
import Derived.Test.YtjadgomakoaibaaMono
namespace Go.Proofs.Ytjadgomakoaibaa
open Go.RowKit

section
variable {P : Program} {ops : Array Oper} {Q : Exit → Act → World → Prop} {a0 : Act} {vals : Nat → Value}
/-- The same, but the first k operations, which hang on no world, are taken first. The first n operations of the region may be walked in the text's order; those behind them come up last, one after the other. -/
def headBK (ops : Array Oper) (k n N : Nat) : Bool :=
  Region.noSelect ops && decide (n ≤ ops.size) && ((List.range n).all fun j => dstB N (opDst ops j) && ((opEdges ops j).all fun e => decide (e < j)) && ((List.range j).all fun i => pairB ops i j)) &&
    ((List.range ops.size).all fun j => decide (j < n) || ((List.range n).all fun i => decide (i < k) || (reach ops j (opEdges ops j)).contains i))
def takeB (ops : Array Oper) : Bool :=
  Region.free .any ops (Array.replicate ops.size false) 0 && (Region.ready .any ops (Array.replicate ops.size false)).contains 0 &&
    Region.free .any ops ((Array.replicate ops.size false).setIfInBounds 0 true) 1 && (Region.ready .any ops ((Array.replicate ops.size false).setIfInBounds 0 true)).contains 1
theorem headBK_spec {k n N : Nat} (h : headBK ops k n N = true) : Region.noSelect ops = true ∧ n ≤ ops.size ∧
    (∀ j, j < n → (∃ d, opDst ops j = some d ∧ d < N) ∧ (∀ e ∈ opEdges ops j, e < j) ∧ ∀ i, i < j → ∃ oi oj, ops[i]? = some oi ∧ ops[j]? = some oj ∧ (i ∈ opEdges ops j ∨ oi.apart ops oj = true) ∧ oi.dst ≠ oj.dst) ∧
    (∀ j, n ≤ j → j < ops.size → ∀ i, i < n → k ≤ i → i ∈ reach ops j (opEdges ops j)) := by
  simp only [headBK, Bool.and_eq_true, decide_eq_true_eq, List.all_eq_true, List.mem_range, Bool.or_eq_true, List.contains_iff_mem] at h
  obtain ⟨⟨⟨h1, h2⟩, h3⟩, h4⟩ := h
  refine ⟨h1, h2, fun j hj => ?_, fun j hj hjs i hi hki => ?_⟩
  · obtain ⟨⟨h5, h6⟩, h7⟩ := h3 j hj
    refine ⟨?_, h6, fun i hi => ?_⟩
    · cases hd : opDst ops j with
      | none => rw [hd] at h5; cases h5
      | some d => rw [hd] at h5; exact ⟨d, rfl, by simpa [dstB] using h5⟩
    · have := h7 i hi
      unfold pairB at this
      cases hoi : ops[i]? with
      | none => simp [hoi] at this
      | some oi =>
        cases hoj : ops[j]? with
        | none => simp [hoi, hoj] at this
        | some oj =>
          simp only [hoi, hoj, Bool.and_eq_true, Bool.or_eq_true, List.contains_iff_mem, bne_iff_ne, ne_eq] at this
          exact ⟨oi, oj, rfl, rfl, this.1, this.2⟩
  · rcases h4 j hjs with h5 | h5
    · omega
    · rcases h5 i hi with h6 | h6
      · omega
      · exact h6

theorem tab_anyK {Φ : World → Prop} {k n N : Nat} {PS : Nat → Value → World → Prop} (hB : headBK ops k n N = true) (hN : a0.tmps.size = N)
    (hΦ : ∀ w w', Below w.heap.size w w' → Φ w → Φ w')
    (hstep : ∀ vals i o, i < n → ops[i]? = some o → (∀ v w w', Below w.heap.size w w' → PS i v w → PS i v w') ∧
      ∀ w, Φ w → (∀ j, j < i → looksB ops o (opDst ops j) = true → PS j (vals j) w) → stepM P ops o (fill ops (fun _ => true) vals a0 i) w (PS i))
    (hend : ∀ (vals : Nat → Value) (listed : Array Bool) w, listed.size = ops.size → (∀ j, j < ops.size → listed.getD j true = decide (j < n)) → Φ w → (∀ j, j < n → PS j (vals j) w) → wpAny P .any ops Q (ops.size - n) listed (fill ops (fun _ => true) vals a0 n) w) :
    ∀ (m : Nat) (listed : Array Bool) (vals : Nat → Value) (w : World), missing (fun j => listed.getD j true) n = m → listed.size = ops.size → (∀ j, n ≤ j → j < ops.size → listed.getD j true = false) →
      (∀ j, j < n → listed.getD j true = true → ∀ e ∈ opEdges ops j, listed.getD e true = true) → Φ w → (∀ j, j < n → listed.getD j true = true → PS j (vals j) w) → (∀ j, j < k → listed.getD j true = true) →
      wpAny P .any ops Q (m + (ops.size - n)) listed (fill ops (fun j => listed.getD j true) vals a0 n) w := by
  obtain ⟨hB1, hB2, hB3, hB4⟩ := headBK_spec hB
  intro m
  induction m with
  | zero =>
    intro listed vals w hm hsz ht hc hw hp hk
    have hall := missing_zero hm
    rw [Nat.zero_add, fill_congr (L' := fun _ => true) (vals' := vals) n (fun j hj => hall j hj) (fun _ _ _ => rfl)]
    refine hend vals listed w hsz (fun j hj => ?_) hw (fun j hj => hp j hj (hall j hj))
    by_cases hjn : j < n
    · rw [hall j hjn]; simp [hjn]
    · rw [ht j (by omega) hj]; simp [hjn]
  | succ m ih =>
    intro listed vals w hm hsz ht hc hw hp hk
    rw [show m + 1 + (ops.size - n) = m + (ops.size - n) + 1 by omega]
    have hsame : ∀ e, e < ops.size → listed.getD e false = listed.getD e true := fun e he => by
      simp [Array.getD_eq_getD_getElem?, Array.getElem?_eq_getElem (show e < listed.size by omega)]
    refine ⟨fun hr => ?_, fun i hi => ?_⟩
    · obtain ⟨j, hj, h1, h2⟩ := missing_pos (L := fun j => listed.getD j true) (n := n) (by omega)
      obtain ⟨oj, hoj⟩ : ∃ o, ops[j]? = some o := ⟨_, Array.getElem?_eq_getElem (show j < ops.size by omega)⟩
      have : j ∈ Region.ready .any ops listed := mem_ready.2 ⟨h1, oj, hoj, fun e he hb => by
        have hlt := (hB3 j hj).2.1 e.on ((mem_opEdges hoj).2 ⟨e, he, hb, rfl⟩)
        rw [hsame e.on (by omega)]
        exact h2 e.on hlt⟩
      rw [hr] at this
      cases this
    · obtain ⟨hun, o, ho, hedge⟩ := mem_ready.1 hi
      have his : i < ops.size := (Array.getElem?_eq_some_iff.1 ho).1
      have hedges : ∀ e ∈ opEdges ops i, listed.getD e true = true := fun e he => by
        obtain ⟨x, hx, hb, rfl⟩ := (mem_opEdges ho).1 he
        have h1 := hedge x hx hb
        simp only [Array.getD_eq_getD_getElem?] at h1 ⊢
        cases hg : listed[x.on]? with
        | none => rfl
        | some b => rw [hg] at h1; exact h1
      by_cases hin : i < n
      · obtain ⟨⟨d, hd, hdN⟩, he, hpair⟩ := hB3 i hin
        have hod : o.dst = some d := by simpa [opDst, ho] using hd
        obtain ⟨hlast, hst⟩ := hstep vals i o hin ho
        have hlook : ∀ j, j < i → looksB ops o (opDst ops j) = true → listed.getD j true = true := fun j hj hl => by
          obtain ⟨oj, oi, hoj, hoi, h1, h2⟩ := hpair j hj
          obtain rfl : oi = o := Option.some.inj (hoi.symm.trans ho)
          rcases h1 with h1 | h1
          · exact hedges j h1
          · obtain ⟨h3, _, _⟩ := Oper.apart_spec h1
            cases hdj : oj.dst with
            | none => simp [looksB, opDst, hoj, hdj] at hl
            | some dj =>
              simp [looksB, opDst, hoj, hdj] at hl
              exact absurd hl (h3 dj hdj)
        have hM := hst w hw (fun j hj hl => hp j (by omega) (hlook j hj hl))
        refine stepM.move (a := fill ops (fun _ => true) vals a0 i) hod (by rw [fill_size, hN]; exact hdN) (Region.noSelect_spec hB1 i o · · ho) (fun t ht' => ?_) hM ho (fun v w' hpv hbw => ?_)
        · have e1 : fill ops (fun _ => true) vals a0 i = fill ops (fun j => decide (j < i)) vals a0 n := by
            have h1 : ∀ k, i + k ≤ n → fill ops (fun j => decide (j < i)) vals a0 (i + k) = fill ops (fun _ => true) vals a0 i := by
              intro k
              induction k with
              | zero => intro _; exact fill_congr _ (fun j hj => by simpa using hj) (fun _ _ _ => rfl)
              | succ k ihk =>
                intro hk
                rw [← Nat.add_assoc]
                simp only [fill]
                rw [if_neg (by simp), ihk (by omega)]
            have := h1 (n - i) (by omega)
            rw [show i + (n - i) = n by omega] at this
            exact this.symm
          rw [e1]
          refine fill_get n fun j hj hne hdj => ?_
          by_cases hji : j < i
          · have hlt := hlook j hji (by simp [looksB, hdj, ht'])
            simp [hji, hlt] at hne
          · have hL : listed.getD j true = true := by
              cases hL : listed.getD j true
              · simp [hji, hL] at hne
              · rfl
            have hji2 : i < j := by
              rcases Nat.lt_or_ge i j with h | h
              · exact h
              · have : j = i := by omega
                rw [this, hun] at hL
                cases hL
            obtain ⟨oi, oj, hoi, hoj, h1, h2⟩ := (hB3 j hj).2.2 i hji2
            obtain rfl : oi = o := Option.some.inj (hoi.symm.trans ho)
            rcases h1 with h1 | h1
            · have := hc j hj hL i h1
              rw [hun] at this
              cases this
            · obtain ⟨_, _, h3⟩ := Oper.apart_spec h1
              exact h3 t (by simpa [opDst, hoj] using hdj) ht'
        · have e2 : ∀ j, (listed.setIfInBounds i true).getD j true = (listed.getD j true || j == i) := fun j => by
            by_cases hji : j = i
            · subst hji
              simp [Array.getD_eq_getD_getElem?, show j < listed.size by omega]
            · rw [Go.getD_set_ne true (Ne.symm hji)]
              simp [hji]
          have e3 : (fun j => (listed.setIfInBounds i true).getD j true) = fun j => listed.getD j true || j == i := funext e2
          have hih := ih (listed.setIfInBounds i true) (fun j => if j = i then v else vals j) w' (by rw [e3]; have := (missing_set (L := fun j => listed.getD j true) (i := i) hun n).1; rw [if_pos hin] at this; omega) (by simp [hsz])
            (fun j hj hjs => by rw [e2, ht j hj hjs]; simp; omega)
            (fun j hj hL e hee => by
              rw [e2] at hL ⊢
              by_cases hji : j = i
              · subst hji
                rw [hedges e hee]; rfl
              · have : listed.getD j true = true := by simpa [hji] using hL
                rw [hc j hj this e hee]; rfl)
            (hΦ w w' hbw hw)
            (fun j hj hL => by
              by_cases hji : j = i
              · subst hji
                simpa using hpv
              · simp only [if_neg hji]
                rw [e2] at hL
                exact (hstep vals j _ hj (Array.getElem?_eq_getElem (show j < ops.size by omega))).1 _ w w' hbw (hp j hj (by simpa [hji] using hL)))
            (fun j hj => by rw [e2, hk j hj]; rfl)
          rw [e3, fill_set (L := fun j => listed.getD j true) hun n (fun j hj hji d' hd' hdj => ?_), if_pos hin, hd, ← hod] at hih
          · exact hih
          · rcases Nat.lt_or_ge i j with h | h
            · obtain ⟨oi, oj, hoi, hoj, _, h2⟩ := (hB3 j hj).2.2 i h
              simp only [opDst, hoi, hoj, Option.bind_some] at hd' hdj
              exact h2 (hd'.trans hdj.symm)
            · obtain ⟨oj, oi, hoj, hoi, _, h2⟩ := hpair j (by omega)
              simp only [opDst, hoi, hoj, Option.bind_some] at hd' hdj
              exact h2 (hdj.trans hd'.symm)
      · have hL := reach_listed (ops := ops) (L := fun j => listed.getD j true) (fun j hj e hee => ?_) i (opEdges ops i) hedges
        · obtain ⟨j, hj, h1, _⟩ := missing_pos (L := fun j => listed.getD j true) (n := n) (by omega)
          have hkj : k ≤ j := by
            rcases Nat.lt_or_ge j k with h9 | h9
            · rw [hk j h9] at h1; cases h1
            · exact h9
          have := hL j (hB4 i (by omega) his j hj hkj)
          rw [h1] at this
          cases this
        · by_cases hjn : j < n
          · exact hc j hjn hj e hee
          · by_cases hjs : j < ops.size
            · rw [ht j (by omega) hjs] at hj
              cases hj
            · simp [opEdges, Array.getElem?_eq_none (show ops.size ≤ j by omega)] at hee

theorem wp_region_tab2K {id : Nat} {l : List Oper} {w : World} (n N : Nat) {o0 o1 : Oper} (v0 v1 : Value) (g0 : l[0]? = some o0) (g1 : l[1]? = some o1) (ps : List (Value → World → Prop)) (Φ : World → Prop) (hm : P.follows .mixedOrders = true) (hB : headBK l.toArray 2 n N = true) (h2n : 2 ≤ n) (hT : takeB l.toArray = true)
    (hQ : ∀ c a d v w, Q (.panic c) (a.put d v) w → Q (.panic c) a w) (y0 : Yields P l.toArray o0 v0 a0) (y1 : Yields P l.toArray o1 v1 (a0.put o0.dst v0)) (p0 : ∀ w, ps.getD 0 (fun _ _ => True) v0 w) (p1 : ∀ w, ps.getD 1 (fun _ _ => True) v1 w)
    (hS : Region.seqB .any l.toArray (l.length - n) n (headDone n (l.length - n)) = true) (hN : a0.tmps.size = N) (hΦ : ∀ w w', Below w.heap.size w w' → Φ w → Φ w') (h0 : Φ w.drew)
    (h : Tab P l.toArray Φ Q (l.drop n) (l.take n) ps [] a0) : (Code.region id l.toArray true).wp P Q a0 w := by
  obtain ⟨hns, hn, _, _⟩ := headBK_spec hB
  have hn' : n ≤ l.length := by simpa using hn
  have hout := fun vals => Tab.out (ops := l.toArray) (a0 := a0) (PS := fun i => ps.getD i (fun _ _ => True)) vals (l.take n) ps [] 0 n (by simp; omega) (fun j hj => by
      simp at hj
      simp [show j < n by omega])
    (fun j p hj => by simp [List.getD_eq_getElem?_getD, hj]) (fun d hd => by cases hd) h
  refine wp_region_any hm ?_
  have e : l.toArray.size = (n - 2 + (l.toArray.size - n)) + 1 + 1 := by simp; omega
  have hs0 : (Array.replicate l.toArray.size false) = (List.replicate l.length false).toArray := by simp
  simp only [takeB, Bool.and_eq_true] at hT
  obtain ⟨⟨⟨hT1, hT2⟩, hT3⟩, hT4⟩ := hT
  have hrep : wpAny P .any l.toArray Q ((n - 2 + (l.toArray.size - n)) + 1 + 1) (Array.replicate l.toArray.size false) a0 { w with drawn := w.drawn + 1 } := by
    refine wpAny_take (i := 0) (by simpa using g0) hns hT1 hT2 (fun c a w => hQ c a _ _ w) y0 ?_
    refine wpAny_take (i := 1) (by simpa using g1) hns hT3 hT4 (fun c a w => hQ c a _ _ w) y1 ?_
    have H := tab_anyK (ops := l.toArray) (P := P) (Q := Q) (a0 := a0) (Φ := Φ) (k := 2) (n := n) (N := N) (PS := fun i => ps.getD i (fun _ _ => True)) hB hN hΦ
      (fun vals i o hi ho => (hout vals).1 i o (by omega) hi ho)
      (fun vals listed w' hsz hl hw hp => by
        have hlist : listed = headDone n (l.length - n) := by
          refine Array.ext_getElem? fun j => ?_
          by_cases hj : j < l.length
          · have h1 := hl j (by simpa using hj)
            rw [Array.getD_eq_getD_getElem?, Array.getElem?_eq_getElem (show j < listed.size by simpa [hsz] using hj)] at h1
            rw [Array.getElem?_eq_getElem (show j < listed.size by simpa [hsz] using hj)]
            simp only [Option.getD_some] at h1
            rw [h1]
            simp only [headDone, List.getElem?_toArray, List.getElem?_append, List.length_replicate, List.getElem?_replicate]
            by_cases hjn : j < n
            · simp [hjn]
            · simp [hjn, show j - n < l.length - n by omega]
          · rw [Array.getElem?_eq_none (by simp [hsz]; omega), headDone, List.getElem?_toArray, List.getElem?_eq_none (by simp; omega)]
        have := wpAny_of_seq (md := .any) (P := P) (ops := l.toArray) (Q' := Q) (l.drop n) n listed (fill l.toArray (fun _ => true) vals a0 n) w' (fun j => by simp [List.getElem?_drop]) (by rw [hlist]; simpa using hS) ((hout vals).2 w' hw hp)
        simpa using this)
      (n - 2) (((Array.replicate l.toArray.size false).setIfInBounds 0 true).setIfInBounds 1 true) (fun j => if j = 0 then v0 else v1) w.drew
    have e2 : ∀ j, (((Array.replicate l.toArray.size false).setIfInBounds 0 true).setIfInBounds 1 true).getD j true = decide (j < 2 ∨ l.length ≤ j) := by
      intro j
      simp only [Array.getD_eq_getD_getElem?, Array.getElem?_setIfInBounds, Array.size_setIfInBounds, Array.size_replicate, Array.getElem?_replicate, List.size_toArray]
      by_cases hj : j < l.length
      · by_cases h0 : j = 0
        · subst h0; simp [hj]
        · by_cases h1 : j = 1
          · subst h1; simp [hj]
          · simp [hj, show ¬ 1 = j by omega, show ¬ 0 = j by omega, show ¬ j < 2 by omega, show ¬ l.length ≤ j by omega]
      · by_cases h0 : j = 0
        · subst h0; simp [hj]
        · by_cases h1 : j = 1
          · subst h1; simp [hj]
          · simp [hj, show ¬ 1 = j by omega, show ¬ 0 = j by omega, show l.length ≤ j by omega]
    have efill : fill l.toArray (fun j => (((Array.replicate l.toArray.size false).setIfInBounds 0 true).setIfInBounds 1 true).getD j true) (fun j => if j = 0 then v0 else v1) a0 n = (a0.put o0.dst v0).put o1.dst v1 := by
      have d0 : opDst l.toArray 0 = o0.dst := by simp [opDst, g0]
      have d1 : opDst l.toArray 1 = o1.dst := by simp [opDst, g1]
      have h1 : ∀ q, 2 + q ≤ n → fill l.toArray (fun j => (((Array.replicate l.toArray.size false).setIfInBounds 0 true).setIfInBounds 1 true).getD j true) (fun j => if j = 0 then v0 else v1) a0 (2 + q) = (a0.put o0.dst v0).put o1.dst v1 := by
        intro q
        induction q with
        | zero =>
          intro _
          have b0 : decide ((0 : Nat) < 2 ∨ l.length ≤ 0) = true := by simp
          have b1 : decide ((1 : Nat) < 2 ∨ l.length ≤ 1) = true := by simp
          simp only [fill, e2, b0, b1, if_true, d0, d1]
          rfl
        | succ q ihq =>
          intro hq
          have b2 : decide (2 + q < 2 ∨ l.length ≤ 2 + q) = false := by simp; omega
          rw [← Nat.add_assoc]
          simp only [fill]
          rw [e2, b2, if_neg (by decide), ihq (by omega)]
      have h3 := h1 (n - 2) (by omega)
      rwa [show 2 + (n - 2) = n by omega] at h3
    have H2 := H ?_ (by simp) (fun j hj hjs => by rw [e2]; simp at hjs; simp; omega) ?_ h0 ?_ (fun j hj => by rw [e2]; simp; omega)
    · rw [efill] at H2
      exact H2
    · have hm : ∀ q, q ≤ l.length → missing (fun j => (((Array.replicate l.toArray.size false).setIfInBounds 0 true).setIfInBounds 1 true).getD j true) q = q - 2 := by
        intro q
        induction q with
        | zero => intro _; rfl
        | succ q ihq =>
          intro hql
          have h1 := ihq (by omega)
          simp only [missing]
          rw [h1]
          have h2 := e2 q
          by_cases hq2 : q < 2
          · rw [if_pos (h2.trans (by simp [hq2]))]; omega
          · rw [if_neg (by rw [h2]; simp [hq2]; omega)]; omega
      exact hm n hn'
    · intro j hj hL e9 he9
      rw [e2] at hL ⊢
      have hj2 : j < 2 := by
        have := of_decide_eq_true hL
        omega
      have he := ((headBK_spec hB).2.2.1 j hj).2.1 e9 he9
      simp
      omega
    · intro j hj hL
      rw [e2] at hL
      have hj2 : j < 2 := by
        have := of_decide_eq_true hL
        omega
      rcases Nat.lt_or_ge j 1 with h9 | h9
      · obtain rfl : j = 0 := by omega
        exact p0 _
      · obtain rfl : j = 1 := by omega
        exact p1 _
  rw [← e] at hrep
  exact hrep
end
end Go.Proofs.Ytjadgomakoaibaa
