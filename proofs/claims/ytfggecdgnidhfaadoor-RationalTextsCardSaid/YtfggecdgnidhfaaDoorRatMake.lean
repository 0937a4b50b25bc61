/- The walks of the reference's Trim, Neg, Sign, of Same and Nil, and of Ratio. The walks of Ratio, Of, the reference's Of and Int, and of the law's comparison. The walks of equal, of Is on both sides, and of the law's look at lengths; lists of rationals in memory. -/
import Derived.Test.YtfggecdgnidhfaaDoorRatTrim
namespace Go.Proofs.YtfggecdgnidhfaaDoor
open Go.RowKit

theorem make_eqv {w : World} {s : Bool} {A B : Option Addr} {n c m d K : Nat} {l k : List Nat} {r : Rat} (h : Rd w A n c l) (h' : Rd w B m d k) (e : ratOf s (val l) (val k) = r) (hn : n ≤ K) (hm : m ≤ K) (hK1 : 1 ≤ K) (hK : K ≤ 1000) :
    Calls Tryd.prog 36 #[.bool s, .slice A n c, .slice B m d] w (RetQ r K w) := by
  subst e
  exact make_any s A n c l B m d k w h h' K hn hm hK1 hK

set_option maxHeartbeats 1000000 in
theorem rtrim_q (s : Bool) (A : Option Addr) (n c : Nat) (B : Option Addr) (m d : Nat) (q : Rat) (K : Nat) (w : World) (h : RawQ w s A n c B m d q K) (hK1 : 1 ≤ K) (hK : K ≤ 1000) :
    Calls Tryd.prog 17 #[.agg #[.bool s, .slice A n c, .slice B m d]] w (RetQ q K w) := by
  obtain ⟨W, hW, hS, q1, q3⟩ := box2 w s A n c B m d
  obtain ⟨⟨ln, ld, h1, h2, he⟩, hn, hm⟩ := h.below hS
  have HW := hide hW
  have HE := hide he
  clear hW he h
  go_enter Tryd.func17, Tryd.ntmps17
  go_wp2_with fail
  rw [← HW.out]
  refine (make_eqv h1 h2 HE.out hn hm hK1 hK).mono ?_
  rintro e w1 ⟨A', n', c', B', m', d', rfl, hcan, hb⟩
  have q31 := q3.below hb
  have hcg := q31.cells
  have hfg := q31.free
  go_wp2
  exact bodyPost_ret (v := .agg #[.bool (qneg q), .slice A' n' c', .slice B' m' d']) (by simp [results, Tryd.results17, go_sem, hcg]) rfl ⟨A', n', c', B', m', d', rfl, hcan.store3 q31.noNum, below3 (below_step hb hS) (by omega) _ _ _⟩

theorem num_len_zero {w : World} {A B : Option Addr} {n c m d K : Nat} {q : Rat} (h : CanQ w A n c B m d q K) : n = 0 ↔ q = 0 := by
  have := h.num.len
  rw [← Rat.num_eq_zero, ← Int.natAbs_eq_zero]
  constructor
  · intro h0
    rw [h0] at this
    exact limbs_eq_nil.1 (List.eq_nil_of_length_eq_zero this)
  · intro h0
    rw [h0, limbs_zero] at this
    simpa using this.symm

theorem boxes2 (w : World) (s : Bool) (A : Option Addr) (n c : Nat) (B : Option Addr) (m d : Nat) (t : Bool) (A2 : Option Addr) (n2 c2 : Nat) (B2 : Option Addr) (m2 d2 : Nat) :
    ∃ W, W = (w.alloc (.cells #[.bool s, .slice A n c, .slice B m d] 33)).alloc (.cells #[.bool t, .slice A2 n2 c2, .slice B2 m2 d2] 33) ∧ Below w.heap.size w W ∧ BoxQ W w.heap.size s A n c B m d ∧ BoxQ W (w.heap.size + 1) t A2 n2 c2 B2 m2 d2 := by
  refine ⟨_, rfl, ((Below.refl _ _).alloc (Nat.le_refl _) _).alloc (by simp) _, (BoxQ.new w _ _ _ _ _ _ _).below (below_alloc _ _), ?_⟩
  have := BoxQ.new (w.alloc (.cells #[.bool s, .slice A n c, .slice B m d] 33)) t A2 n2 c2 B2 m2 d2
  simpa using this

set_option maxHeartbeats 1000000 in
theorem rsameq_any (s : Bool) (A : Option Addr) (n c : Nat) (ln : List Nat) (B : Option Addr) (m d : Nat) (ld : List Nat) (t : Bool) (A2 : Option Addr) (n2 c2 : Nat) (kn : List Nat) (B2 : Option Addr) (m2 d2 : Nat) (kd : List Nat) (w : World)
    (h1 : Rd w A n c ln) (h2 : Rd w B m d ld) (h3 : Rd w A2 n2 c2 kn) (h4 : Rd w B2 m2 d2 kd) :
    Calls Tryd.prog 35 #[.agg #[.bool s, .slice A n c, .slice B m d], .agg #[.bool t, .slice A2 n2 c2, .slice B2 m2 d2]] w (Makes (.bool (decide (s = t) && decide (ln = kn) && decide (ld = kd))) w) := by
  obtain ⟨W, hW, hS, q1, q2⟩ := boxes2 w s A n c B m d t A2 n2 c2 B2 m2 d2
  have HW := hide hW
  replace h1 := h1.below hS
  replace h2 := h2.below hS
  replace h3 := h3.below hS
  replace h4 := h4.below hS
  have hc1 := q1.cells
  have hc2 := q2.cells
  clear hW
  by_cases hst : s = t
  · subst hst
    have hcall := rsame_any _ _ _ _ _ _ _ _ _ h1 h3
    by_cases hln : ln = kn
    · subst hln
      rw [decide_eq_true rfl] at hcall
      go_enter Tryd.func35, Tryd.ntmps35
      go_wp2_with fail
      rw [← HW.out]
      refine hcall.mono ?_
      rintro e w1 ⟨rfl, hb⟩
      have hcg1 := (q1.below hb).cells
      have hcg2 := (q2.below hb).cells
      clear hc1 hc2 hcall
      go_wp2_with fail
      refine (rsame_any _ _ _ _ _ _ _ _ _ (h2.below hb) (h4.below hb)).mono ?_
      rintro e w2 ⟨rfl, hb2⟩
      go_wp2
      go_ret
      exact ⟨by simp, below_step hb2 (below_step hb hS)⟩
    · rw [decide_eq_false hln] at hcall
      have HR : Hid ((decide (s = s) && decide (ln = kn) && decide (ld = kd)) = false) := by rw [Hid, decide_eq_false hln]; simp
      clear hln
      go_enter Tryd.func35, Tryd.ntmps35
      go_wp2_with fail
      rw [← HW.out]
      refine hcall.mono ?_
      rintro e w1 ⟨rfl, hb⟩
      clear hc1 hc2 hcall
      go_wp2
      go_ret
      rw [HR.out]
      exact ⟨rfl, below_step hb hS⟩
  · have hsb : (s == t) = false := by simpa using hst
    have HR : Hid ((decide (s = t) && decide (ln = kn) && decide (ld = kd)) = false) := by rw [Hid, decide_eq_false hst]; simp
    clear hst
    go_enter Tryd.func35, Tryd.ntmps35
    go_wp2_with fail
    go_ret
    rw [HR.out, ← HW.out]
    exact ⟨rfl, hS⟩

set_option maxHeartbeats 1000000 in
theorem lsameq_any (s : Bool) (A : Option Addr) (n c : Nat) (ln : List Nat) (B : Option Addr) (m d : Nat) (ld : List Nat) (t : Bool) (A2 : Option Addr) (n2 c2 : Nat) (kn : List Nat) (B2 : Option Addr) (m2 d2 : Nat) (kd : List Nat) (w : World)
    (h1 : Rd w A n c ln) (h2 : Rd w B m d ld) (h3 : Rd w A2 n2 c2 kn) (h4 : Rd w B2 m2 d2 kd) :
    Calls Tryd.prog 16 #[.agg #[.bool s, .slice A n c, .slice B m d], .agg #[.bool t, .slice A2 n2 c2, .slice B2 m2 d2]] w (Makes (.bool (decide (s = t) && decide (ln = kn) && decide (ld = kd))) w) := by
  obtain ⟨W, hW, hS, q1, q2⟩ := boxes2 w s A n c B m d t A2 n2 c2 B2 m2 d2
  have HW := hide hW
  replace h1 := h1.below hS
  replace h2 := h2.below hS
  replace h3 := h3.below hS
  replace h4 := h4.below hS
  have hc1 := q1.cells
  have hc2 := q2.cells
  clear hW
  go_enter Tryd.func16, Tryd.ntmps16
  go_wp2_with fail
  rw [← HW.out]
  refine (rsameq_any _ _ _ _ _ _ _ _ _ _ _ _ _ _ _ _ _ _ _ h1 h2 h3 h4).mono ?_
  rintro e w1 ⟨rfl, hb⟩
  generalize (decide (s = t) && decide (ln = kn) && decide (ld = kd)) = v at *
  clear hc1 hc2
  go_wp2
  go_ret
  exact ⟨rfl, below_step hb hS⟩

theorem can_eq {p q : Rat} : (decide (qneg p = qneg q) && decide (limbs p.num.natAbs = limbs q.num.natAbs) && decide (limbs p.den = limbs q.den)) = decide (p = q) := by
  by_cases h : p = q
  · subst h; simp
  · rw [decide_eq_false h]
    rw [Bool.eq_false_iff]
    intro h2
    simp only [Bool.and_eq_true, decide_eq_true_eq, limbs_inj] at h2
    obtain ⟨⟨h3, h4⟩, h5⟩ := h2
    apply h
    rw [← ratOf_self p, ← ratOf_self q, h3, h4, h5]
section
variable {w : World} {A B A2 B2 : Option Addr} {n c m d n2 c2 m2 d2 K L : Nat} {p q : Rat}
theorem same_q (h : CanQ w A n c B m d p K) (h' : CanQ w A2 n2 c2 B2 m2 d2 q L) :
    Calls Tryd.prog 16 #[.agg #[.bool (qneg p), .slice A n c, .slice B m d], .agg #[.bool (qneg q), .slice A2 n2 c2, .slice B2 m2 d2]] w (Makes (.bool (decide (p = q))) w) := by
  rw [← can_eq]
  exact lsameq_any _ _ _ _ _ _ _ _ _ _ _ _ _ _ _ _ _ _ _ h.num h.den h'.num h'.den
theorem same_q_yes (h : CanQ w A n c B m d p K) (h' : CanQ w A2 n2 c2 B2 m2 d2 q L) (e : p = q) :
    Calls Tryd.prog 16 #[.agg #[.bool (qneg p), .slice A n c, .slice B m d], .agg #[.bool (qneg q), .slice A2 n2 c2, .slice B2 m2 d2]] w (Makes (.bool true) w) := by
  have := same_q h h'
  rwa [decide_eq_true e] at this
end

/-- A rational and an error. -/
def RetQE (q : Rat) (K : Nat) (w : World) (x : Ending) (w' : World) : Prop :=
  ∃ A n c B m d, x = .returned (.tuple #[.agg #[.bool (qneg q), .slice A n c, .slice B m d], .int .i64 0]) ∧ CanQ w' A n c B m d q K ∧ Below w.heap.size w w'
/-- No rational, and an error. -/
def ErrQ (e : Int) (w : World) (x : Ending) (w' : World) : Prop :=
  x = .returned (.tuple #[.agg #[.bool false, .slice none 0 0, .slice none 0 0], .int .i64 e]) ∧ Below w.heap.size w w'

theorem limbs_of_len {l : List Nat} {x : Nat} (hl : Lims l) (hn : l.length = (limbs x).length) (hv : val l = x) : l = limbs x := by
  subst hv
  have h1 := take_keep hl
  have h2 := congrArg List.length h1
  rw [List.length_take] at h2
  have h3 := keep_le l l.length
  rw [← h1, List.take_of_length_le]
  omega

/-- Is the datum the canonical one of its value? -/
def isV (s : Bool) (ln ld : List Nat) (q : Rat) : Bool := decide (s = qneg q) && decide (ln = limbs q.num.natAbs) && decide (ld = limbs q.den)

end Go.Proofs.YtfggecdgnidhfaaDoor
