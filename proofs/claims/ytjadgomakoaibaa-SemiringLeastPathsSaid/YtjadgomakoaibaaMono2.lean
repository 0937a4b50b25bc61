/- The order-free law of a drawn region that makes several variables: their addresses differ. -/
import Derived.Test.YtjadgomakoaibaaMono
namespace Go.Proofs.Ytjadgomakoaibaa
open Go.RowKit

section
variable {P : Program} {ops : Array Oper} {Q : Exit → Act → World → Prop} {a0 : Act} {vals : Nat → Value}
/-- The walk in the text's order: 'done' says of each operation that is behind, where its value lies, what it meets, and the value. -/
def Tab2 (al : Nat → Bool) (P : Program) (ops : Array Oper) (Φ : World → Prop) (Q : Exit → Act → World → Prop) (tail : List Oper) : List Oper → List (Value → World → Prop) → Nat → List (Nat × Option Tmp × (Value → World → Prop) × Value) → Act → Prop
  | [], _, _, done, a => ∀ w, Φ w → (∀ d ∈ done, d.2.2.1 d.2.2.2 w) → (∀ d ∈ done, ∀ d' ∈ done, al d.1 = true → al d'.1 = true → d.1 ≠ d'.1 → d.2.2.2 ≠ d'.2.2.2) → wpList P ops Q tail a w
  | _ :: _, [], _, _, _ => False
  | o :: l, p :: ps, k, done, a => (∀ v w w', Below w.heap.size w w' → p v w → p v w') ∧ (al k = true → ∀ v w, p v w → ∃ g, v = .pointer (some ⟨g, 0, none⟩) ∧ g < w.heap.size) ∧
      (∀ w, Φ w → (∀ d ∈ done, looksB ops o d.2.1 = true → d.2.2.1 d.2.2.2 w) → stepM P ops o a w (fun v w' => p v w' ∧ (al k = true → v = .pointer (some ⟨w.heap.size, 0, none⟩)))) ∧ ∀ v, Tab2 al P ops Φ Q tail l ps (k + 1) ((k, o.dst, p, v) :: done) (a.put o.dst v)

theorem Tab2.out {al : Nat → Bool} {Φ : World → Prop} {tail : List Oper} {PS : Nat → Value → World → Prop} (vals : Nat → Value) : ∀ (l : List Oper) (ps : List (Value → World → Prop)) (done : List (Nat × Option Tmp × (Value → World → Prop) × Value)) (k n : Nat),
    k + l.length = n → (∀ j, j < l.length → l[j]? = ops[k + j]?) → (∀ j p, ps[j]? = some p → PS (k + j) = p) → (∀ d ∈ done, ∃ j, j < k ∧ d = (j, opDst ops j, PS j, vals j)) →
    Tab2 al P ops Φ Q tail l ps k done (fill ops (fun _ => true) vals a0 k) →
    (∀ i o, k ≤ i → i < n → ops[i]? = some o → (∀ v w w', Below w.heap.size w w' → PS i v w → PS i v w') ∧ (al i = true → ∀ v w, PS i v w → ∃ g, v = .pointer (some ⟨g, 0, none⟩) ∧ g < w.heap.size) ∧
      ∀ w, Φ w → (∀ j, j < i → looksB ops o (opDst ops j) = true → PS j (vals j) w) → stepM P ops o (fill ops (fun _ => true) vals a0 i) w (fun v w' => PS i v w' ∧ (al i = true → v = .pointer (some ⟨w.heap.size, 0, none⟩)))) ∧
    ∀ w, Φ w → (∀ j, j < n → PS j (vals j) w) → (∀ i j, i < n → j < n → al i = true → al j = true → i ≠ j → vals i ≠ vals j) → wpList P ops Q tail (fill ops (fun _ => true) vals a0 n) w := by
  intro l
  induction l with
  | nil =>
    intro ps done k n hk _ _ hd h
    have : k = n := by simpa using hk
    subst this
    refine ⟨fun i o h1 h2 => by omega, fun w hw hp hne => h w hw (fun d hdm => ?_) (fun d hdm d' hdm' e1 e2 e3 => ?_)⟩
    · obtain ⟨j, hj, rfl⟩ := hd d hdm
      exact hp j hj
    · obtain ⟨j, hj, rfl⟩ := hd d hdm
      obtain ⟨j', hj', rfl⟩ := hd d' hdm'
      exact hne j j' hj hj' e1 e2 e3
  | cons o l ih =>
    intro ps done k n hk hl hps hd h
    cases ps with
    | nil => exact h.elim
    | cons p ps =>
      have h0 : ops[k]? = some o := by simpa using (hl 0 (by simp)).symm
      have hp0 : PS k = p := by simpa using hps 0 p rfl
      obtain ⟨h1, hal, h2, h3⟩ := h
      have hdst : opDst ops k = o.dst := by simp [opDst, h0]
      have h4 := ih ps ((k, o.dst, p, vals k) :: done) (k + 1) n (by simp at hk; omega) (fun j hj => by
          have := hl (j + 1) (by simp; omega)
          simpa [Nat.add_assoc, Nat.add_comm 1 j] using this)
        (fun j p' hj => by
          have := hps (j + 1) p' (by simpa using hj)
          rwa [show k + 1 + j = k + (j + 1) by omega])
        (fun d hdm => by
          rcases List.mem_cons.1 hdm with rfl | hdm
          · exact ⟨k, by omega, by rw [hdst, hp0]⟩
          · obtain ⟨j, hj, e⟩ := hd d hdm
            exact ⟨j, by omega, e⟩)
        (by
          have := h3 (vals k)
          simp only [fill, if_true, hdst]
          exact this)
      refine ⟨fun i o' hi hin ho' => ?_, h4.2⟩
      by_cases hik : i = k
      · subst hik
        obtain rfl : o' = o := Option.some.inj (ho'.symm.trans h0)
        rw [hp0]
        refine ⟨h1, hal, fun w hw hdep => h2 w hw fun d hdm hlook => ?_⟩
        obtain ⟨j, hj, rfl⟩ := hd d hdm
        exact hdep j hj hlook
      · exact h4.1 i o' (by omega) hin ho'

theorem tab_any2 {al : Nat → Bool} {Φ : World → Prop} {n N : Nat} {PS : Nat → Value → World → Prop} (hB : headB ops n N = true) (hN : a0.tmps.size = N)
    (hΦ : ∀ w w', Below w.heap.size w w' → Φ w → Φ w')
    (hstep : ∀ vals i o, i < n → ops[i]? = some o → (∀ v w w', Below w.heap.size w w' → PS i v w → PS i v w') ∧ (al i = true → ∀ v w, PS i v w → ∃ g, v = .pointer (some ⟨g, 0, none⟩) ∧ g < w.heap.size) ∧
      ∀ w, Φ w → (∀ j, j < i → looksB ops o (opDst ops j) = true → PS j (vals j) w) → stepM P ops o (fill ops (fun _ => true) vals a0 i) w (fun v w' => PS i v w' ∧ (al i = true → v = .pointer (some ⟨w.heap.size, 0, none⟩))))
    (hend : ∀ (vals : Nat → Value) (listed : Array Bool) w, listed.size = ops.size → (∀ j, j < ops.size → listed.getD j true = decide (j < n)) → Φ w → (∀ j, j < n → PS j (vals j) w) → (∀ i j, i < n → j < n → al i = true → al j = true → i ≠ j → vals i ≠ vals j) → wpAny P .any ops Q (ops.size - n) listed (fill ops (fun _ => true) vals a0 n) w) :
    ∀ (m : Nat) (listed : Array Bool) (vals : Nat → Value) (w : World), missing (fun j => listed.getD j true) n = m → listed.size = ops.size → (∀ j, n ≤ j → j < ops.size → listed.getD j true = false) →
      (∀ j, j < n → listed.getD j true = true → ∀ e ∈ opEdges ops j, listed.getD e true = true) → Φ w → (∀ j, j < n → listed.getD j true = true → PS j (vals j) w) →
      (∀ i j, i < n → j < n → listed.getD i true = true → listed.getD j true = true → al i = true → al j = true → i ≠ j → vals i ≠ vals j) →
      wpAny P .any ops Q (m + (ops.size - n)) listed (fill ops (fun j => listed.getD j true) vals a0 n) w := by
  obtain ⟨hB1, hB2, hB3, hB4⟩ := headB_spec hB
  intro m
  induction m with
  | zero =>
    intro listed vals w hm hsz ht hc hw hp hdif
    have hall := missing_zero hm
    rw [Nat.zero_add, fill_congr (L' := fun _ => true) (vals' := vals) n (fun j hj => hall j hj) (fun _ _ _ => rfl)]
    refine hend vals listed w hsz (fun j hj => ?_) hw (fun j hj => hp j hj (hall j hj)) (fun i j hi hj => hdif i j hi hj (hall i hi) (hall j hj))
    by_cases hjn : j < n
    · rw [hall j hjn]; simp [hjn]
    · rw [ht j (by omega) hj]; simp [hjn]
  | succ m ih =>
    intro listed vals w hm hsz ht hc hw hp hdif
    rw [show m + 1 + (ops.size - n) = m + (ops.size - n) + 1 by omega]
    have hsame : ∀ e, e < ops.size → listed.getD e false = listed.getD e true := fun e he => by
      simp [Array.getD_eq_getD_getElem?, Array.getElem?_eq_getElem (show e < listed.size by omega)]
    refine ⟨fun hr => ?_, fun i hi => ?_⟩
    · obtain ⟨j, hj, h1, h2⟩ := missing_pos (L := fun j => listed.getD j true) (n := n) (by omega)
      obtain ⟨oj, hoj⟩ : ∃ o, ops[j]? = some o := ⟨_, Array.getElem?_eq_getElem (show j < ops.size by omega)⟩
      have : j ∈ Region.ready .any ops listed := mem_ready.2 ⟨h1, oj, hoj, fun e he hb => by
        have hlt := (hB3 j hj).2.1 e.on ((mem_opEdges hoj).2 ⟨e, he, hb, rfl⟩)
        rw [hsame e.on (by omega)]
        exact h2 e.on hlt⟩
      rw [hr] at this
      cases this
    · obtain ⟨hun, o, ho, hedge⟩ := mem_ready.1 hi
      have his : i < ops.size := (Array.getElem?_eq_some_iff.1 ho).1
      have hedges : ∀ e ∈ opEdges ops i, listed.getD e true = true := fun e he => by
        obtain ⟨x, hx, hb, rfl⟩ := (mem_opEdges ho).1 he
        have h1 := hedge x hx hb
        simp only [Array.getD_eq_getD_getElem?] at h1 ⊢
        cases hg : listed[x.on]? with
        | none => rfl
        | some b => rw [hg] at h1; exact h1
      by_cases hin : i < n
      · obtain ⟨⟨d, hd, hdN⟩, he, hpair⟩ := hB3 i hin
        have hod : o.dst = some d := by simpa [opDst, ho] using hd
        obtain ⟨hlast, hal, hst⟩ := hstep vals i o hin ho
        have hlook : ∀ j, j < i → looksB ops o (opDst ops j) = true → listed.getD j true = true := fun j hj hl => by
          obtain ⟨oj, oi, hoj, hoi, h1, h2⟩ := hpair j hj
          obtain rfl : oi = o := Option.some.inj (hoi.symm.trans ho)
          rcases h1 with h1 | h1
          · exact hedges j h1
          · obtain ⟨h3, _, _⟩ := Oper.apart_spec h1
            cases hdj : oj.dst with
            | none => simp [looksB, opDst, hoj, hdj] at hl
            | some dj =>
              simp [looksB, opDst, hoj, hdj] at hl
              exact absurd hl (h3 dj hdj)
        have hM := hst w hw (fun j hj hl => hp j (by omega) (hlook j hj hl))
        refine stepM.move (a := fill ops (fun _ => true) vals a0 i) hod (by rw [fill_size, hN]; exact hdN) (Region.noSelect_spec hB1 i o · · ho) (fun t ht' => ?_) hM ho (fun v w' hpv0 hbw => ?_)
        · have e1 : fill ops (fun _ => true) vals a0 i = fill ops (fun j => decide (j < i)) vals a0 n := by
            have h1 : ∀ k, i + k ≤ n → fill ops (fun j => decide (j < i)) vals a0 (i + k) = fill ops (fun _ => true) vals a0 i := by
              intro k
              induction k with
              | zero => intro _; exact fill_congr _ (fun j hj => by simpa using hj) (fun _ _ _ => rfl)
              | succ k ihk =>
                intro hk
                rw [← Nat.add_assoc]
                simp only [fill]
                rw [if_neg (by simp), ihk (by omega)]
            have := h1 (n - i) (by omega)
            rw [show i + (n - i) = n by omega] at this
            exact this.symm
          rw [e1]
          refine fill_get n fun j hj hne hdj => ?_
          by_cases hji : j < i
          · have hlt := hlook j hji (by simp [looksB, hdj, ht'])
            simp [hji, hlt] at hne
          · have hL : listed.getD j true = true := by
              cases hL : listed.getD j true
              · simp [hji, hL] at hne
              · rfl
            have hji2 : i < j := by
              rcases Nat.lt_or_ge i j with h | h
              · exact h
              · have : j = i := by omega
                rw [this, hun] at hL
                cases hL
            obtain ⟨oi, oj, hoi, hoj, h1, h2⟩ := (hB3 j hj).2.2 i hji2
            obtain rfl : oi = o := Option.some.inj (hoi.symm.trans ho)
            rcases h1 with h1 | h1
            · have := hc j hj hL i h1
              rw [hun] at this
              cases this
            · obtain ⟨_, _, h3⟩ := Oper.apart_spec h1
              exact h3 t (by simpa [opDst, hoj] using hdj) ht'
        · obtain ⟨hpv, hfr⟩ := hpv0
          have e2 : ∀ j, (listed.setIfInBounds i true).getD j true = (listed.getD j true || j == i) := fun j => by
            by_cases hji : j = i
            · subst hji
              simp [Array.getD_eq_getD_getElem?, show j < listed.size by omega]
            · rw [Go.getD_set_ne true (Ne.symm hji)]
              simp [hji]
          have e3 : (fun j => (listed.setIfInBounds i true).getD j true) = fun j => listed.getD j true || j == i := funext e2
          have hih := ih (listed.setIfInBounds i true) (fun j => if j = i then v else vals j) w' (by rw [e3]; have := (missing_set (L := fun j => listed.getD j true) (i := i) hun n).1; rw [if_pos hin] at this; omega) (by simp [hsz])
            (fun j hj hjs => by rw [e2, ht j hj hjs]; simp; omega)
            (fun j hj hL e hee => by
              rw [e2] at hL ⊢
              by_cases hji : j = i
              · subst hji
                rw [hedges e hee]; rfl
              · have : listed.getD j true = true := by simpa [hji] using hL
                rw [hc j hj this e hee]; rfl)
            (hΦ w w' hbw hw)
            (fun j hj hL => by
              by_cases hji : j = i
              · subst hji
                simpa using hpv
              · simp only [if_neg hji]
                rw [e2] at hL
                exact (hstep vals j _ hj (Array.getElem?_eq_getElem (show j < ops.size by omega))).1 _ w w' hbw (hp j hj (by simpa [hji] using hL)))
            (fun x y hx hy hLx hLy hax hay hxy => by
              rw [e2] at hLx hLy
              have old : ∀ z, z < n → z ≠ i → listed.getD z true = true → al z = true → al i = true → vals z ≠ v := fun z hz hzi hLz haz hai h9 => by
                obtain ⟨g, h1, h2⟩ := (hstep vals z _ hz (Array.getElem?_eq_getElem (show z < ops.size by omega))).2.1 haz _ w (hp z hz hLz)
                rw [h9, hfr hai] at h1
                simp only [Value.pointer.injEq, Option.some.injEq, Addr.mk.injEq, and_true] at h1
                omega
              by_cases hxi : x = i
              · have hyi : y ≠ i := fun h => hxy (by rw [hxi, h])
                have hLy' : listed.getD y true = true := by simpa [hyi] using hLy
                rw [if_pos hxi, if_neg hyi]
                exact (old y hy hyi hLy' hay (by rw [← hxi]; exact hax)).symm
              · have hLx' : listed.getD x true = true := by simpa [hxi] using hLx
                rw [if_neg hxi]
                by_cases hyi : y = i
                · rw [if_pos hyi]
                  exact old x hx hxi hLx' hax (by rw [← hyi]; exact hay)
                · rw [if_neg hyi]
                  exact hdif x y hx hy hLx' (by simpa [hyi] using hLy) hax hay hxy)
          rw [e3, fill_set (L := fun j => listed.getD j true) hun n (fun j hj hji d' hd' hdj => ?_), if_pos hin, hd, ← hod] at hih
          · exact hih
          · rcases Nat.lt_or_ge i j with h | h
            · obtain ⟨oi, oj, hoi, hoj, _, h2⟩ := (hB3 j hj).2.2 i h
              simp only [opDst, hoi, hoj, Option.bind_some] at hd' hdj
              exact h2 (hd'.trans hdj.symm)
            · obtain ⟨oj, oi, hoj, hoi, _, h2⟩ := hpair j (by omega)
              simp only [opDst, hoi, hoj, Option.bind_some] at hd' hdj
              exact h2 (hdj.trans hd'.symm)
      · have hL := reach_listed (ops := ops) (L := fun j => listed.getD j true) (fun j hj e hee => ?_) i (opEdges ops i) hedges
        · obtain ⟨j, hj, h1, _⟩ := missing_pos (L := fun j => listed.getD j true) (n := n) (by omega)
          have := hL j (hB4 i (by omega) his j hj)
          rw [h1] at this
          cases this
        · by_cases hjn : j < n
          · exact hc j hjn hj e hee
          · by_cases hjs : j < ops.size
            · rw [ht j (by omega) hjs] at hj
              cases hj
            · simp [opEdges, Array.getElem?_eq_none (show ops.size ≤ j by omega)] at hee

theorem wp_region_tab2 {id : Nat} {l : List Oper} {w : World} (n N : Nat) (al : Nat → Bool) (ps : List (Value → World → Prop)) (Φ : World → Prop) (hm : P.follows .mixedOrders = true) (hB : headB l.toArray n N = true)
    (hS : Region.seqB .any l.toArray (l.length - n) n (headDone n (l.length - n)) = true) (hN : a0.tmps.size = N) (hΦ : ∀ w w', Below w.heap.size w w' → Φ w → Φ w') (h0 : Φ w.drew)
    (h : Tab2 al P l.toArray Φ Q (l.drop n) (l.take n) ps 0 [] a0) : (Code.region id l.toArray true).wp P Q a0 w := by
  obtain ⟨_, hn, _, _⟩ := headB_spec hB
  have hn' : n ≤ l.length := by simpa using hn
  have hout := fun vals => Tab2.out (al := al) (ops := l.toArray) (a0 := a0) (PS := fun i => ps.getD i (fun _ _ => True)) vals (l.take n) ps [] 0 n (by simp; omega) (fun j hj => by
      simp at hj
      simp [show j < n by omega])
    (fun j p hj => by simp [List.getD_eq_getElem?_getD, hj]) (fun d hd => by cases hd) h
  refine wp_region_any hm ?_
  have H := tab_any2 (al := al) (ops := l.toArray) (P := P) (Q := Q) (a0 := a0) (Φ := Φ) (n := n) (N := N) (PS := fun i => ps.getD i (fun _ _ => True)) hB hN hΦ
    (fun vals i o hi ho => (hout vals).1 i o (by omega) hi ho)
    (fun vals listed w' hsz hl hw hp hne => by
      have hlist : listed = headDone n (l.length - n) := by
        refine Array.ext_getElem? fun j => ?_
        by_cases hj : j < l.length
        · have h1 := hl j (by simpa using hj)
          rw [Array.getD_eq_getD_getElem?, Array.getElem?_eq_getElem (show j < listed.size by simpa [hsz] using hj)] at h1
          rw [Array.getElem?_eq_getElem (show j < listed.size by simpa [hsz] using hj)]
          simp only [Option.getD_some] at h1
          rw [h1]
          simp only [headDone, List.getElem?_toArray, List.getElem?_append, List.length_replicate, List.getElem?_replicate]
          by_cases hjn : j < n
          · simp [hjn]
          · simp [hjn, show j - n < l.length - n by omega]
        · rw [Array.getElem?_eq_none (by simp [hsz]; omega), headDone, List.getElem?_toArray, List.getElem?_eq_none (by simp; omega)]
      have := wpAny_of_seq (md := .any) (P := P) (ops := l.toArray) (Q' := Q) (l.drop n) n listed (fill l.toArray (fun _ => true) vals a0 n) w' (fun j => by simp [List.getElem?_drop]) (by rw [hlist]; simpa using hS) ((hout vals).2 w' hw hp hne)
      simpa using this)
    n (Array.replicate l.length false) (fun _ => undef) w.drew
    (missing_all n fun j hj => by simp [Array.getD_eq_getD_getElem?, show j < l.length by omega]) (by simp)
    (fun j hj hjs => by simp at hjs; simp [Array.getD_eq_getD_getElem?, hjs])
    (fun j hj hL => by simp [Array.getD_eq_getD_getElem?, show j < l.length by omega] at hL) h0
    (fun j hj hL => by simp [Array.getD_eq_getD_getElem?, show j < l.length by omega] at hL)
    (fun x y hx hy hLx => by simp [Array.getD_eq_getD_getElem?, show x < l.length by omega] at hLx)
  rw [fill_none n (fun j hj => by simp [Array.getD_eq_getD_getElem?, show j < l.length by omega])] at H
  have e : n + (l.toArray.size - n) = l.toArray.size := by simp; omega
  rw [e] at H
  simpa using H

theorem Tab2.cons {al : Nat → Bool} {Φ : World → Prop} {tail l : List Oper} {o : Oper} {p : Value → World → Prop} {ps : List (Value → World → Prop)} {k : Nat} {done : List (Nat × Option Tmp × (Value → World → Prop) × Value)} {a : Act}
    (h1 : ∀ v w w', Below w.heap.size w w' → p v w → p v w') (h0 : al k = true → ∀ v w, p v w → ∃ g, v = .pointer (some ⟨g, 0, none⟩) ∧ g < w.heap.size)
    (h2 : ∀ w, Φ w → (∀ d ∈ done, looksB ops o d.2.1 = true → d.2.2.1 d.2.2.2 w) → stepM P ops o a w (fun v w' => p v w' ∧ (al k = true → v = .pointer (some ⟨w.heap.size, 0, none⟩))))
    (h3 : ∀ v, Tab2 al P ops Φ Q tail l ps (k + 1) ((k, o.dst, p, v) :: done) (a.put o.dst v)) : Tab2 al P ops Φ Q tail (o :: l) (p :: ps) k done a := ⟨h1, h0, h2, h3⟩
theorem Tab2.nil {al : Nat → Bool} {Φ : World → Prop} {tail : List Oper} {ps : List (Value → World → Prop)} {k : Nat} {done : List (Nat × Option Tmp × (Value → World → Prop) × Value)} {a : Act}
    (h : ∀ w, Φ w → (∀ d ∈ done, d.2.2.1 d.2.2.2 w) → (∀ d ∈ done, ∀ d' ∈ done, al d.1 = true → al d'.1 = true → d.1 ≠ d'.1 → d.2.2.2 ≠ d'.2.2.2) → wpList P ops Q tail a w) : Tab2 al P ops Φ Q tail [] ps k done a := h
theorem Shut.weak {p : Value → World → Prop} {c : Prop} {f : Value → Prop} {K : Act → World → Prop} {a : Act} {d : Option Tmp} {w : World} (h : Shut (∀ v w', (p v w' ∧ (c → f v)) → Below w.heap.size w w' → K (a.put d v) w')) (hc : ¬ c) :
    Shut (∀ v w', p v w' → Below w.heap.size w w' → K (a.put d v) w') := fun v w' hp hb => h v w' ⟨hp, fun h9 => absurd h9 hc⟩ hb
end
end Go.Proofs.Ytjadgomakoaibaa
