/- The walks of size, Of, and the reference's abs, Of and Int. -/
import Derived.Test.YtlomanhmpbapeaaRatMake
namespace Go.Proofs.Ytlomanhmpbapeaa
open Go.RowKit

theorem wrap_neg (z : Int) (h : -9223372036854775808 ≤ z) (h2 : z < 0) : IntKind.u64.wrap (-(IntKind.u64.wrap z)) = ((z.natAbs : Nat) : Int) ∧ z.natAbs < 18446744073709551616 := by
  rw [wrap_u64', wrap_u64']
  omega

set_option maxHeartbeats 400000 in
theorem size_any (z : Int) (w : World) (h : -9223372036854775808 ≤ z ∧ z ≤ 9223372036854775807) :
    Calls Try.prog 61 #[.int .i64 z] w (RetB z.natAbs 2 w) := by
  obtain ⟨h1, h2⟩ := h
  by_cases hz : z < 0
  · obtain ⟨hw, hb⟩ := wrap_neg z h1 hz
    have hcall := fun W => of_any z.natAbs W hb
    obtain ⟨k, hk⟩ : ∃ k, k = z.natAbs := ⟨_, rfl⟩
    rw [← hk] at hw hb hcall ⊢
    clear hk
    go_enter Try.func61, Try.ntmps61
    go_wp2_with fail
    refine (hcall _).mono ?_
    rintro e w1 ⟨A', n', c', rfl, hr, hb1⟩
    have hn : n' ≤ 2 := by rw [← hr.len]; exact length_limbs_le (by omega)
    clear hcall hw
    go_wp2
    go_ret
    exact ⟨_, _, _, rfl, hr, hb1, hn⟩
  · obtain ⟨k, rfl⟩ := Int.eq_ofNat_of_zero_le (show 0 ≤ z by omega)
    have hcall := fun W => of_any k W (by omega)
    rw [Int.natAbs_natCast]
    go_enter Try.func61, Try.ntmps61
    go_wp2_with fail
    refine (hcall _).mono ?_
    rintro e w1 ⟨A', n', c', rfl, hr, hb1⟩
    have hn : n' ≤ 2 := by rw [← hr.len]; exact length_limbs_le (by omega)
    clear hcall
    go_wp2
    go_ret
    exact ⟨_, _, _, rfl, hr, hb1, hn⟩

set_option maxHeartbeats 400000 in
theorem rabs_any (z : Int) (w : World) (h : -9223372036854775808 ≤ z ∧ z ≤ 9223372036854775807) :
    Calls Try.prog 62 #[.int .i64 z] w (RetB z.natAbs 2 w) := by
  obtain ⟨h1, h2⟩ := h
  by_cases hz : z < 0
  · obtain ⟨k, hk⟩ : ∃ k : Nat, z = -(k : Int) - 1 := ⟨(-z - 1).toNat, by omega⟩
    subst hk
    have hk63 : k ≤ 9223372036854775807 := by omega
    have hcall := fun W => rof_any k W (by omega)
    have hab : Hid ((-(k : Int) - 1).natAbs = k + 1) := by unfold Hid; omega
    clear h1 h2
    go_enter Try.func62, Try.ntmps62
    go_wp2_with fail
    refine (hcall _).mono ?_
    rintro e w1 ⟨A', n', c', rfl, hr, hb1⟩
    have hn : n' ≤ 2 := by rw [← hr.len]; exact length_limbs_le (by omega)
    have hlit := rd_lit1 (w := w1) (x := 1) w1.heap.size rfl 1 rfl (by omega) (by omega)
    clear hcall
    go_wp2_with fail
    refine (radd_any _ _ _ _ _ _ _ _ _ (hr.below (below_alloc _ _)) hlit (by omega) (by omega)).mono ?_
    rintro e w2 ⟨A2, n2, c2, rfl, hr2, hb2⟩
    rw [val_limbs, val_limbs] at hr2
    have hn2 : n2 ≤ 2 := by rw [← hr2.len]; exact length_limbs_le (by omega)
    clear hlit
    go_wp2
    go_ret
    exact ⟨_, _, _, rfl, by rw [hab.out]; exact hr2, below_step hb2 (below_step (below_alloc _ _) hb1), hn2⟩
  · obtain ⟨k, rfl⟩ := Int.eq_ofNat_of_zero_le (show 0 ≤ z by omega)
    have hcall := fun W => rof_any k W (by omega)
    rw [Int.natAbs_natCast]
    go_enter Try.func62, Try.ntmps62
    go_wp2_with fail
    refine (hcall _).mono ?_
    rintro e w1 ⟨A', n', c', rfl, hr, hb1⟩
    have hn : n' ≤ 2 := by rw [← hr.len]; exact length_limbs_le (by omega)
    clear hcall
    go_wp2
    go_ret
    exact ⟨_, _, _, rfl, hr, hb1, hn⟩

/-- The quotient of two ints. -/
def ofV (x y : Int) : Rat := ratOf (decide (x < 0) != decide (y < 0)) x.natAbs y.natAbs

set_option maxHeartbeats 1000000 in
theorem qof_zero (x : Int) (w : World) : Calls Try.prog 21 #[.int .i64 x, .int .i64 0] w (ErrQ 7 w) := by
  go_enter Try.func21, Try.ntmps21
  go_wp2
  exact bodyPost_ret (v := .tuple #[.agg #[.bool false, .slice none 0 0, .slice none 0 0], .int .i64 7]) (by simp [results, Try.results21, go_sem]) rfl ⟨rfl, below_alloc w _⟩

set_option maxHeartbeats 1000000 in
theorem qof_ok (x y : Int) (w : World) (hx : -9223372036854775808 ≤ x ∧ x ≤ 9223372036854775807) (hy : -9223372036854775808 ≤ y ∧ y ≤ 9223372036854775807) (h0 : y ≠ 0) :
    Calls Try.prog 21 #[.int .i64 x, .int .i64 y] w (RetQE (ofV x y) 2 w) := by
  obtain ⟨W, hW, hS, q3⟩ := box1 w false none 0 0 none 0 0
  have HW := hide hW
  have hye : (y == 0) = false := by simp; exact h0
  have HX := hide hx
  have HY := hide hy
  clear hW h0 hx hy
  go_enter Try.func21, Try.ntmps21
  go_wp2_with fail
  rw [← HW.out]
  refine (size_any x _ HX.out).mono ?_
  rintro e w1 ⟨A1, n1, c1, rfl, h1, hb1, hn1⟩
  go_wp2_with fail
  refine (size_any y _ HY.out).mono ?_
  rintro e w2 ⟨A2, n2, c2, rfl, h2, hb2, hn2⟩
  go_wp2_with fail
  refine (canonical_eq (K := 2) (r := ofV x y) (h1.below hb2) h2 (by rw [val_limbs, val_limbs]; rfl) hn1 hn2 (by omega) (by omega)).mono ?_
  rintro e w3 ⟨A', n', c', B', m', d', rfl, hcan, hb3⟩
  have hB := below_step hb3 (below_step hb2 hb1)
  have q31 := q3.below hB
  have hcg := q31.cells
  have hfg := q31.free
  go_wp2
  exact bodyPost_ret (v := .tuple #[.agg #[.bool (qneg (ofV x y)), .slice A' n' c', .slice B' m' d'], .int .i64 0]) (by simp [results, Try.results21, go_sem, hcg]) rfl ⟨A', n', c', B', m', d', rfl, hcan.store3 q31.noNum, below3 (below_step hB hS) (Nat.le_refl _) _ _ _⟩

set_option maxHeartbeats 1000000 in
theorem rof_q (x y : Int) (w : World) (hx : -9223372036854775808 ≤ x ∧ x ≤ 9223372036854775807) (hy : -9223372036854775808 ≤ y ∧ y ≤ 9223372036854775807) :
    Calls Try.prog 22 #[.int .i64 x, .int .i64 y] w (RetQ (ofV x y) 2 w) := by
  obtain ⟨W, hW, hS, q3⟩ := box1 w false none 0 0 none 0 0
  have HW := hide hW
  have HX := hide hx
  have HY := hide hy
  clear hW hx hy
  go_enter Try.func22, Try.ntmps22
  go_wp2_with fail
  rw [← HW.out]
  refine (rabs_any x _ HX.out).mono ?_
  rintro e w1 ⟨A1, n1, c1, rfl, h1, hb1, hn1⟩
  go_wp2_with fail
  refine (rabs_any y _ HY.out).mono ?_
  rintro e w2 ⟨A2, n2, c2, rfl, h2, hb2, hn2⟩
  go_wp2_with fail
  refine (make_eqv (K := 2) (r := ofV x y) (h1.below hb2) h2 (by rw [val_limbs, val_limbs]; rfl) hn1 hn2 (by omega) (by omega)).mono ?_
  rintro e w3 ⟨A', n', c', B', m', d', rfl, hcan, hb3⟩
  have hB := below_step hb3 (below_step hb2 hb1)
  have q31 := q3.below hB
  have hcg := q31.cells
  have hfg := q31.free
  go_wp2
  exact bodyPost_ret (v := .agg #[.bool (qneg (ofV x y)), .slice A' n' c', .slice B' m' d']) (by simp [results, Try.results22, go_sem, hcg]) rfl ⟨A', n', c', B', m', d', rfl, hcan.store3 q31.noNum, below3 (below_step hB hS) (Nat.le_refl _) _ _ _⟩

theorem ofV_one (x : Int) : ofV x 1 = ((x : Int) : Rat) := by
  unfold ofV
  rw [show (1 : Int).natAbs = 1 from rfl, ratOf_nil]
  congr 1
  have : (decide (x < 0) != decide ((1 : Int) < 0)) = decide (x < 0) := by simp
  rw [this, sgn_natAbs]

set_option maxHeartbeats 1000000 in
theorem rint_q (x : Int) (w : World) (hx : -9223372036854775808 ≤ x ∧ x ≤ 9223372036854775807) :
    Calls Try.prog 36 #[.int .i64 x] w (RetQ ((x : Int) : Rat) 2 w) := by
  rw [← ofV_one]
  obtain ⟨W, hW, hS, q3⟩ := box1 w false none 0 0 none 0 0
  have HW := hide hW
  have HX := hide hx
  clear hW hx
  go_enter Try.func36, Try.ntmps36
  go_wp2_with fail
  rw [← HW.out]
  refine (rof_q x 1 _ HX.out (by omega)).mono ?_
  rintro e w3 ⟨A', n', c', B', m', d', rfl, hcan, hb3⟩
  have q31 := q3.below hb3
  have hcg := q31.cells
  have hfg := q31.free
  go_wp2
  exact bodyPost_ret (v := .agg #[.bool (qneg (ofV x 1)), .slice A' n' c', .slice B' m' d']) (by simp [results, Try.results36, go_sem, hcg]) rfl ⟨A', n', c', B', m', d', rfl, hcan.store3 q31.noNum, below3 (below_step hb3 hS) (Nat.le_refl _) _ _ _⟩
end Go.Proofs.Ytlomanhmpbapeaa
