/- The walks of Ratio, Of, the reference's Of and Int, and of the law's comparison. -/
import Derived.Test.YtlomanhmpbapeaaRatRef
namespace Go.Proofs.Ytlomanhmpbapeaa
open Go.RowKit

set_option maxHeartbeats 1000000 in
theorem lsameq_any (s : Bool) (A : Option Addr) (n c : Nat) (ln : List Nat) (B : Option Addr) (m d : Nat) (ld : List Nat) (t : Bool) (A2 : Option Addr) (n2 c2 : Nat) (kn : List Nat) (B2 : Option Addr) (m2 d2 : Nat) (kd : List Nat) (w : World)
    (h1 : Rd w A n c ln) (h2 : Rd w B m d ld) (h3 : Rd w A2 n2 c2 kn) (h4 : Rd w B2 m2 d2 kd) :
    Calls Try.prog 20 #[.agg #[.bool s, .slice A n c, .slice B m d], .agg #[.bool t, .slice A2 n2 c2, .slice B2 m2 d2]] w (Makes (.bool (decide (s = t) && decide (ln = kn) && decide (ld = kd))) w) := by
  obtain ⟨W, hW, hS, q1, q2⟩ := boxes2 w s A n c B m d t A2 n2 c2 B2 m2 d2
  have HW := hide hW
  replace h1 := h1.below hS
  replace h2 := h2.below hS
  replace h3 := h3.below hS
  replace h4 := h4.below hS
  have hc1 := q1.cells
  have hc2 := q2.cells
  clear hW
  go_enter Try.func20, Try.ntmps20
  go_wp2_with fail
  rw [← HW.out]
  refine (rsameq_any _ _ _ _ _ _ _ _ _ _ _ _ _ _ _ _ _ _ _ h1 h2 h3 h4).mono ?_
  rintro e w1 ⟨rfl, hb⟩
  generalize (decide (s = t) && decide (ln = kn) && decide (ld = kd)) = v at *
  clear hc1 hc2
  go_wp2
  go_ret
  exact ⟨rfl, below_step hb hS⟩

theorem can_eq {p q : Rat} : (decide (qneg p = qneg q) && decide (limbs p.num.natAbs = limbs q.num.natAbs) && decide (limbs p.den = limbs q.den)) = decide (p = q) := by
  by_cases h : p = q
  · subst h; simp
  · rw [decide_eq_false h]
    rw [Bool.eq_false_iff]
    intro h2
    simp only [Bool.and_eq_true, decide_eq_true_eq, limbs_inj] at h2
    obtain ⟨⟨h3, h4⟩, h5⟩ := h2
    apply h
    rw [← ratOf_self p, ← ratOf_self q, h3, h4, h5]
section
variable {w : World} {A B A2 B2 : Option Addr} {n c m d n2 c2 m2 d2 K L : Nat} {p q : Rat}
theorem same_q (h : CanQ w A n c B m d p K) (h' : CanQ w A2 n2 c2 B2 m2 d2 q L) :
    Calls Try.prog 20 #[.agg #[.bool (qneg p), .slice A n c, .slice B m d], .agg #[.bool (qneg q), .slice A2 n2 c2, .slice B2 m2 d2]] w (Makes (.bool (decide (p = q))) w) := by
  rw [← can_eq]
  exact lsameq_any _ _ _ _ _ _ _ _ _ _ _ _ _ _ _ _ _ _ _ h.num h.den h'.num h'.den
theorem same_q_yes (h : CanQ w A n c B m d p K) (h' : CanQ w A2 n2 c2 B2 m2 d2 q L) (e : p = q) :
    Calls Try.prog 20 #[.agg #[.bool (qneg p), .slice A n c, .slice B m d], .agg #[.bool (qneg q), .slice A2 n2 c2, .slice B2 m2 d2]] w (Makes (.bool true) w) := by
  have := same_q h h'
  rwa [decide_eq_true e] at this
end

set_option maxHeartbeats 400000 in
theorem nil_nil (w : World) : Calls Try.prog 19 #[.agg #[.bool false, .slice none 0 0, .slice none 0 0]] w (Makes (.bool true) w) := by
  go_enter Try.func19, Try.ntmps19
  go_wp2
  go_ret
  exact ⟨rfl, below_alloc w _⟩

/-- A rational and an error. -/
def RetQE (q : Rat) (K : Nat) (w : World) (x : Ending) (w' : World) : Prop :=
  ∃ A n c B m d, x = .returned (.tuple #[.agg #[.bool (qneg q), .slice A n c, .slice B m d], .int .i64 0]) ∧ CanQ w' A n c B m d q K ∧ Below w.heap.size w w'
/-- No rational, and an error. -/
def ErrQ (e : Int) (w : World) (x : Ending) (w' : World) : Prop :=
  x = .returned (.tuple #[.agg #[.bool false, .slice none 0 0, .slice none 0 0], .int .i64 e]) ∧ Below w.heap.size w w'

set_option maxHeartbeats 1000000 in
theorem ratio_zero (A : Option Addr) (n c : Nat) (B : Option Addr) (m d : Nat) (ld : List Nat) (w : World) (h' : Rd w B m d ld) (hm : m ≤ 10000) (h0 : val ld = 0) :
    Calls Try.prog 16 #[.slice A n c, .slice B m d] w (ErrQ 7 w) := by
  obtain ⟨W, hW, hS, q3⟩ := box1 w false none 0 0 none 0 0
  have HW := hide hW
  have hb2 := bits_any _ _ _ _ _ (h'.below hS) (by omega)
  rw [h0, nbits_zero] at hb2
  have hcg := q3.cells
  have hfg := q3.free
  clear hW
  go_enter Try.func16, Try.ntmps16
  go_wp2_with fail
  rw [← HW.out]
  refine hb2.mono ?_
  rintro e w1 ⟨rfl, rfl⟩
  clear hb2
  go_wp2
  exact bodyPost_ret (v := .tuple #[.agg #[.bool false, .slice none 0 0, .slice none 0 0], .int .i64 7]) (by simp [results, Try.results16, go_sem, hcg]) rfl ⟨rfl, below3 hS (Nat.le_refl _) _ _ _⟩

set_option maxHeartbeats 1000000 in
theorem ratio_ok (A : Option Addr) (n c : Nat) (ln : List Nat) (B : Option Addr) (m d : Nat) (ld : List Nat) (w : World) (h : Rd w A n c ln) (h' : Rd w B m d ld) (K : Nat) (hn : n ≤ K) (hm : m ≤ K) (hK1 : 1 ≤ K) (hK : K ≤ 10000) (h0 : val ld ≠ 0) :
    Calls Try.prog 16 #[.slice A n c, .slice B m d] w (RetQE (ratOf false (val ln) (val ld)) K w) := by
  obtain ⟨W, hW, hS, q3⟩ := box1 w false none 0 0 none 0 0
  have HW := hide hW
  have hb2 := bits_any _ _ _ _ _ (h'.below hS) (by omega)
  have hy1 : nbits (val ld) ≠ 0 := mt nbits_eq_zero.1 h0
  obtain ⟨y, hy⟩ : ∃ y, y = nbits (val ld) := ⟨_, rfl⟩
  rw [← hy] at hb2 hy1
  have hye : ((y : Int) == 0) = false := by simp; exact hy1
  clear hW hy h0 hy1
  go_enter Try.func16, Try.ntmps16
  go_wp2_with fail
  rw [← HW.out]
  refine hb2.mono ?_
  rintro e w1 ⟨rfl, rfl⟩
  clear hb2
  go_wp2_with fail
  refine (canonical_any false A n c ln B m d ld _ (h.below hS) (h'.below hS) K hn hm hK1 hK).mono ?_
  rintro e w2 ⟨A', n', c', B', m', d', rfl, hcan, hb⟩
  have q31 := q3.below hb
  have hcg := q31.cells
  have hfg := q31.free
  generalize ratOf false (val ln) (val ld) = q at *
  go_wp2
  exact bodyPost_ret (v := .tuple #[.agg #[.bool (qneg q), .slice A' n' c', .slice B' m' d'], .int .i64 0]) (by simp [results, Try.results16, go_sem, hcg]) rfl ⟨A', n', c', B', m', d', rfl, hcan.store3 q31.noNum, below3 (below_step hb hS) (Nat.le_refl _) _ _ _⟩
end Go.Proofs.Ytlomanhmpbapeaa
