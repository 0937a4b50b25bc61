/- The walk of the law RationalExponents. -/
import Derived.Test.YtlomanhmpbapeaaRatDiv
import Derived.Test.YtlomanhmpbapeaaRatPow
namespace Go.Proofs.Ytlomanhmpbapeaa
open Go.RowKit

theorem qpow_step {q : Rat} (h : q ≠ 0) (z : Int) : qpowV q (z + 1) = qpowV q z * q := by
  rcases (show z < 0 ∨ 0 ≤ z by omega) with hz | hz
  · obtain ⟨k, rfl⟩ : ∃ k : Nat, z = -((k : Int) + 1) := ⟨(-z - 1).toNat, by omega⟩
    have e1 : (-((k : Int) + 1)).natAbs = k + 1 := by omega
    have e2 : -((k : Int) + 1) + 1 = -(k : Int) := by omega
    rw [e2]
    unfold qpowV
    rw [if_pos hz, e1, Rat.pow_succ, Rat.mul_assoc, Rat.inv_mul_cancel q h, Rat.mul_one]
    rcases Nat.eq_zero_or_pos k with h0 | h0
    · subst h0
      simp [Rat.pow_zero]
    · rw [if_pos (by omega), Int.natAbs_neg]
      rfl
  · obtain ⟨k, rfl⟩ := Int.eq_ofNat_of_zero_le hz
    unfold qpowV
    rw [if_neg (by omega), if_neg (by omega)]
    have e1 : ((k : Int) + 1).natAbs = k + 1 := by omega
    rw [e1, Rat.pow_succ]
    rfl
theorem qpow_addn {q : Rat} (h : q ≠ 0) (x : Int) (k : Nat) : qpowV q (x + k) = qpowV q x * q ^ k := by
  induction k with
  | zero => simp
  | succ k ih =>
    rw [show x + ((k + 1 : Nat) : Int) = (x + (k : Int)) + 1 by omega, qpow_step h, ih, Rat.pow_succ, Rat.mul_assoc]
theorem qpow_pos_val (q : Rat) (k : Nat) : qpowV q (k : Int) = q ^ k := qpowV_pos q k
theorem qpow_add {q : Rat} (h : q ≠ 0) (x y : Int) : qpowV q (x + y) = qpowV q x * qpowV q y := by
  rcases (show y < 0 ∨ 0 ≤ y by omega) with hy | hy
  · obtain ⟨k, rfl⟩ : ∃ k : Nat, y = -(k : Int) := ⟨(-y).toNat, by omega⟩
    have h1 := qpow_addn h (x + -(k : Int)) k
    have h2 := qpow_addn h (-(k : Int)) k
    rw [show x + -(k : Int) + (k : Int) = x by omega] at h1
    rw [show -(k : Int) + (k : Int) = 0 by omega] at h2
    have h3 : qpowV q 0 = 1 := by
      unfold qpowV
      rw [if_neg (by omega)]
      exact Rat.pow_zero _
    rw [h3] at h2
    rw [h1, Rat.mul_assoc, Rat.mul_comm (q ^ k), ← h2, Rat.mul_one]
  · obtain ⟨k, rfl⟩ := Int.eq_ofNat_of_zero_le hy
    rw [qpow_pos_val]
    exact qpow_addn h x k
theorem pow_short {N K m M : Nat} (hN : N < 4294967296 ^ K) (hm : m ≤ M) : (limbs (N ^ m)).length ≤ K * M + 1 := by
  refine length_limbs_le ?_
  have h1 : N ^ m ≤ (4294967296 ^ K) ^ m := Nat.pow_le_pow_left (Nat.le_of_lt hN) m
  have h2 : (4294967296 ^ K) ^ m ≤ 4294967296 ^ (K * M) := by
    rw [← Nat.pow_mul]
    exact Nat.pow_le_pow_right (by omega) (Nat.mul_le_mul_left _ hm)
  have h3 : 4294967296 ^ (K * M) < 4294967296 ^ (K * M + 1) := Nat.pow_lt_pow_right (by omega) (by omega)
  omega
theorem qpow_any2 {w : World} {s : Bool} {A B : Option Addr} {n c m d : Nat} {q : Rat} (h : RawQ w s A n c B m d q 2) (h0 : q ≠ 0) (z : Int) (M : Nat) (hM : M ≤ 256) (hz1 : -(M : Int) ≤ z) (hz2 : z ≤ (M : Int)) :
    Calls Try.prog 33 #[.agg #[.bool s, .slice A n c, .slice B m d], .int .i64 z] w (RetQE (qpowV q z) (2 * M + 1) w) := by
  have hsm : q.num.natAbs < 4294967296 ^ 2 ∧ q.den < 4294967296 ^ 2 := by
    obtain ⟨ln, ld, h1, h2, h3, h4, h5⟩ := h.limbs
    have b1 := Nat.lt_of_lt_of_le (val_lt_len h1) (pow_le_pow_limb h.hn)
    have b2 := Nat.lt_of_lt_of_le (val_lt_len h2) (pow_le_pow_limb h.hm)
    have hd : val ld ≠ 0 := fun h9 => h0 (by rw [← h3, h9, ratOf_zero_den])
    rw [← h3, ratOf_abs hd, ratOf_den hd]
    exact ⟨Nat.lt_of_le_of_lt (Nat.div_le_self _ _) b1, Nat.lt_of_le_of_lt (Nat.div_le_self _ _) b2⟩
  rcases (show z < 0 ∨ 0 ≤ z by omega) with hz | hz
  · obtain ⟨k, rfl⟩ : ∃ k : Nat, z = -(k : Int) := ⟨(-z).toNat, by omega⟩
    exact qpow_neg s A n c B m d q 2 w h (by omega) (by omega) k (by omega) (by omega) h0 (2 * M + 1) (by omega) (by omega) (pow_short (M := M) hsm.1 (by omega)) (pow_short (M := M) hsm.2 (by omega))
  · obtain ⟨k, rfl⟩ := Int.eq_ofNat_of_zero_le hz
    exact qpow_pos s A n c B m d q 2 w h (by omega) (by omega) k (by omega) (2 * M + 1) (by omega) (by omega) (pow_short (M := M) hsm.1 (by omega)) (pow_short (M := M) hsm.2 (by omega))

set_option maxHeartbeats 8000000 in
set_option maxRecDepth 10000 in
theorem law_RationalExponents (w : World) (s1 : Bool) (A1 : Option Addr) (n1 c1 : Nat) (x1 : List Nat) (B1 : Option Addr) (m1 d1 : Nat) (y1 : List Nat) (g1 : Rd w A1 n1 c1 x1) (sA1 : n1 ≤ 35184372088832) (g1' : Rd w B1 m1 d1 y1) (sB1 : m1 ≤ 35184372088832) (z1 : Int) (b1 : -128 ≤ z1 ∧ z1 ≤ 127) (z2 : Int) (b2 : -128 ≤ z2 ∧ z2 ≤ 127) :
    Calls Try.prog 10 #[.agg #[.bool s1, .slice A1 n1 c1, .slice B1 m1 d1], .int .i8 z1, .int .i8 z2] w (Makes (.bool true) w) := by
  obtain ⟨W0, hW, hS, q1⟩ := box1 w s1 A1 n1 c1 B1 m1 d1
  have e1 := g1.below hS
  have e1' := g1'.below hS
  have hlist := rawl_one (s := s1) (g := w.heap.size + 1) (by rw [hW]; simp) e1 e1'
  have hcall := longq_any 2 _ 1 1 _ _ hlist (by
    intro t ht
    simp only [List.mem_singleton] at ht
    subst ht
    exact ⟨by rw [e1.len]; exact sA1, by rw [e1'.len]; exact sB1⟩) (by omega)
  have hB2 := below_step (below_alloc W0 (.cells #[.bool s1, .slice A1 n1 c1, .slice B1 m1 d1] 25)) hS
  have HW := hide hW
  have HCALL := hide hcall
  have q1b := q1.below (below_alloc W0 (.cells #[.bool s1, .slice A1 n1 c1, .slice B1 m1 d1] 25))
  have hc1 := q1.cells
  replace e1 := e1.below (below_alloc W0 (.cells #[.bool s1, .slice A1 n1 c1, .slice B1 m1 d1] 25))
  replace e1' := e1'.below (below_alloc W0 (.cells #[.bool s1, .slice A1 n1 c1, .slice B1 m1 d1] 25))
  clear hW hcall hlist sA1 sB1 g1 g1' q1
  go_enter Try.func10, Try.ntmps10
  go_wp2_with fail
  rw [← HW.out]
  refine HCALL.out.mono ?_
  rintro e w1 ⟨rfl, hb1⟩
  cases hlong : anyLongQ 2 [(s1, x1, y1)] with
  | true =>
    clear hlong hc1
    go_wp2
    go_ret
    exact ⟨rfl, below_step hb1 hB2⟩
  | false =>
    have hnm1 : n1 + m1 ≤ 2 := by
      have := anyLongQ_false hlong (s1, x1, y1) (by simp)
      rw [e1.len, e1'.len] at this
      exact this
    have hB := below_step hb1 hB2
    have q1c := q1b.below hb1
    have k1 := e1.below hb1
    have k1' := e1'.below hb1
    clear hlong hb1 hB2 hS HCALL HW hc1 e1 e1' q1b
    clear W0
    obtain ⟨W, hW⟩ : ∃ W : World, W = w1 := ⟨_, rfl⟩
    subst hW
    obtain ⟨a, hq1⟩ : ∃ q, q = ratOf s1 (val x1) (val y1) := ⟨_, rfl⟩
    have r1 : RawQ W s1 A1 n1 c1 B1 m1 d1 a 2 := ⟨⟨x1, y1, k1, k1', hq1.symm⟩, by omega, by omega⟩
    have Q1 := hide q1c
    have hc1 := q1c.cells
    clear hq1 q1c k1 k1' hnm1
    have hF := From.refl W
    obtain ⟨l1, u1⟩ := b1
    obtain ⟨l2, u2⟩ := b2
    have hs1 : IntKind.i64.wrap z1 = z1 := IntWalk.i64_in _ (by omega)
    have hs2 : IntKind.i64.wrap z2 = z2 := IntWalk.i64_in _ (by omega)
    by_cases h0 : a = 0
    · have H0 := hide (qsign_of_zero h0)
      clear h0
      go_wp2_with fail
      refine (sign_q _ _ _ _ _ _ _ _ 2 _ r1 (by omega)).mono ?_
      rw [H0.out]
      rintro e w2 ⟨rfl, hb2⟩
      clear hc1
      replace hB := below_step hb2 hB
      have k1 := rd_lit1 (w := w2) (x := 2) w2.heap.size rfl 2 rfl (by omega) (by omega)
      have k2 := rd_lit1 (w := w2.alloc (.cells #[.int .u32 2] 30)) (x := 3) (w2.heap.size + 1) (by simp) 3 rfl (by omega) (by omega)
      have rr : RawQ ((w2.alloc (.cells #[.int .u32 2] 30)).alloc (.cells #[.int .u32 3] 30)) false (some ⟨w2.heap.size, 0, none⟩) 1 1 (some ⟨w2.heap.size + 1, 0, none⟩) 1 1 (ratOf false 2 3) 1 :=
        ⟨⟨limbs 2, limbs 3, k1.below (below_alloc _ _), k2, by rw [val_limbs, val_limbs]⟩, Nat.le_refl _, Nat.le_refl _⟩
      have hB3 := below_step (below_alloc _ (.cells #[.int .u32 3] 30)) (below_step (below_alloc w2 (.cells #[.int .u32 2] 30)) hB)
      have HS : Hid (qsign (ratOf false 2 3) = 1) := by
        rw [Hid, qsign_ratOf (by omega) (by omega)]
        rfl
      go_wp2_with fail
      refine (sign_q _ _ _ _ _ _ _ _ 1 _ rr (by omega)).mono ?_
      rw [HS.out]
      rintro e w3 ⟨rfl, hb3⟩
      go_wp2
      go_ret
      exact ⟨by rfl, below_step hb3 hB3⟩
    · obtain ⟨x, hx⟩ : ∃ x, x = qsign a := ⟨_, rfl⟩
      have hx0 : (x == 0) = false := by
        have := mt qsign_zero.1 h0
        rw [← hx] at this
        simpa using this
      have HX := hide hx.symm
      have H3 := hide h0
      have HADD := hide (qpow_add h0 z1 z2)
      clear h0 hx
      go_wp2_with fail
      refine (sign_q _ _ _ _ _ _ _ _ 2 _ r1 (by omega)).mono ?_
      rw [HX.out]
      rintro e w2 ⟨rfl, hb2⟩
      clear hc1
      replace hB := below_step hb2 hB
      replace Q1 := hide (Q1.out.below hb2)
      replace r1 := r1.below hb2
      clear hb2
      obtain ⟨X, hX⟩ : ∃ D, D = qpowV a (z1 + z2) := ⟨_, rfl⟩
      obtain ⟨Y, hY⟩ : ∃ D, D = qpowV a z1 := ⟨_, rfl⟩
      obtain ⟨Z, hZ⟩ : ∃ D, D = qpowV a z2 := ⟨_, rfl⟩
      rw [← hX, ← hY, ← hZ] at HADD
      have HPX := hide hX.symm
      have HPY := hide hY.symm
      have HPZ := hide hZ.symm
      clear hX hY hZ
      have hc1 := Q1.out.cells
      have hne : ¬ w.heap.size = w2.heap.size := by have := Q1.out.2; omega
      go_wp2_with fail
      refine (qpow_any2 r1 H3.out (z1 + z2) 256 (by omega) (by omega) (by omega)).mono ?_
      rw [HPX.out]
      rintro e w3 ⟨AX, nX, cX, BX, mX, dX, rfl, canX, hb3⟩
      clear hc1 hne
      have hc1 := (Q1.out.below hb3).cells
      have hne : ¬ w.heap.size = w3.heap.size := by have := (Q1.out.below hb3).2; omega
      have hne' : ¬ w3.heap.size = w.heap.size := by omega
      have hzz : w.heap.size < w3.heap.size := (Q1.out.below hb3).2
      go_wp2_with fail
      have hba := below_alloc w3 (.cells #[.bool (qneg X), .slice AX nX cX, .slice BX mX dX] 25)
      have QX := hide (BoxQ.new w3 (qneg X) AX nX cX BX mX dX)
      replace Q1 := hide ((Q1.out.below hb3).below hba)
      replace r1 := (r1.below hb3).below hba
      replace canX := canX.below hba
      replace hB := below_step hba (below_step hb3 hB)
      obtain ⟨VX, hV⟩ : ∃ V, V = w3.alloc (.cells #[.bool (qneg X), .slice AX nX cX, .slice BX mX dX] 25) := ⟨_, rfl⟩
      rw [← hV] at Q1 QX r1 canX hB ⊢
      obtain ⟨gX, hg⟩ : ∃ g, g = w3.heap.size := ⟨_, rfl⟩
      rw [← hg] at QX ⊢
      clear hV hg hba hb3 hc1 hne hne' hzz 
      have hc1 := Q1.out.cells
      have hne : ¬ w.heap.size = VX.heap.size := by have := Q1.out.2; omega
      go_wp2_with fail
      refine (qpow_any2 r1 H3.out z1 128 (by omega) (by omega) (by omega)).mono ?_
      rw [HPY.out]
      rintro e w4 ⟨AY, nY, cY, BY, mY, dY, rfl, canY, hb4⟩
      clear hc1 hne
      have hc1 := (Q1.out.below hb4).cells
      have hne : ¬ w.heap.size = w4.heap.size := by have := (Q1.out.below hb4).2; omega
      have hne' : ¬ w4.heap.size = w.heap.size := by omega
      have hzz : w.heap.size < w4.heap.size := (Q1.out.below hb4).2
      have hccX := (QX.out.below hb4).cells
      have hnX : ¬ gX = w4.heap.size := by have := (QX.out.below hb4).2; omega
      have hnX' : ¬ w4.heap.size = gX := by omega
      go_wp2_with fail
      have hba := below_alloc w4 (.cells #[.bool (qneg Y), .slice AY nY cY, .slice BY mY dY] 25)
      have QY := hide (BoxQ.new w4 (qneg Y) AY nY cY BY mY dY)
      replace Q1 := hide ((Q1.out.below hb4).below hba)
      replace r1 := (r1.below hb4).below hba
      replace canY := canY.below hba
      replace hB := below_step hba (below_step hb4 hB)
      replace QX := hide ((QX.out.below hb4).below hba)
      replace canX := (canX.below hb4).below hba
      obtain ⟨VY, hV⟩ : ∃ V, V = w4.alloc (.cells #[.bool (qneg Y), .slice AY nY cY, .slice BY mY dY] 25) := ⟨_, rfl⟩
      rw [← hV] at Q1 QY r1 canY hB QX canX ⊢
      obtain ⟨gY, hg⟩ : ∃ g, g = w4.heap.size := ⟨_, rfl⟩
      rw [← hg] at QY ⊢
      clear hV hg hba hb4 hc1 hne hne' hzz hccX hnX hnX'
      have hc1 := Q1.out.cells
      have hne : ¬ w.heap.size = VY.heap.size := by have := Q1.out.2; omega
      go_wp2_with fail
      refine (qpow_any2 r1 H3.out z2 128 (by omega) (by omega) (by omega)).mono ?_
      rw [HPZ.out]
      rintro e w5 ⟨AZ, nZ, cZ, BZ, mZ, dZ, rfl, canZ, hb5⟩
      clear hc1 hne
      have hc1 := (Q1.out.below hb5).cells
      have hne : ¬ w.heap.size = w5.heap.size := by have := (Q1.out.below hb5).2; omega
      have hne' : ¬ w5.heap.size = w.heap.size := by omega
      have hzz : w.heap.size < w5.heap.size := (Q1.out.below hb5).2
      have hccX := (QX.out.below hb5).cells
      have hnX : ¬ gX = w5.heap.size := by have := (QX.out.below hb5).2; omega
      have hnX' : ¬ w5.heap.size = gX := by omega
      have hccY := (QY.out.below hb5).cells
      have hnY : ¬ gY = w5.heap.size := by have := (QY.out.below hb5).2; omega
      have hnY' : ¬ w5.heap.size = gY := by omega
      go_wp2_with fail
      have hba := below_alloc w5 (.cells #[.bool (qneg Z), .slice AZ nZ cZ, .slice BZ mZ dZ] 25)
      have QZ := hide (BoxQ.new w5 (qneg Z) AZ nZ cZ BZ mZ dZ)
      replace Q1 := hide ((Q1.out.below hb5).below hba)
      replace r1 := (r1.below hb5).below hba
      replace canZ := canZ.below hba
      replace hB := below_step hba (below_step hb5 hB)
      replace QX := hide ((QX.out.below hb5).below hba)
      replace canX := (canX.below hb5).below hba
      replace QY := hide ((QY.out.below hb5).below hba)
      replace canY := (canY.below hb5).below hba
      obtain ⟨W, hV⟩ : ∃ V, V = w5.alloc (.cells #[.bool (qneg Z), .slice AZ nZ cZ, .slice BZ mZ dZ] 25) := ⟨_, rfl⟩
      rw [← hV] at Q1 QZ r1 canZ hB QX canX QY canY ⊢
      obtain ⟨gZ, hg⟩ : ∃ g, g = w5.heap.size := ⟨_, rfl⟩
      rw [← hg] at QZ ⊢
      clear hV hg hba hb5 hc1 hne hne' hzz hccX hnX hnX' hccY hnY hnY'
      have hF := From.refl W
      refine wp_region_tab 19 66 [IsV (.int .i64 0), IsV (.bool true), IsV (.bool true), IsV (.int .i64 0), IsV (.bool true), IsV (.bool true), IsV (.bool true), IsV (.int .i64 0), IsV (.bool true), IsV (.bool true), IsV (.bool true), IsV (.agg #[.bool (qneg X), .slice AX nX cX, .slice BX mX dX]), IsV (.agg #[.bool (qneg Y), .slice AY nY cY, .slice BY mY dY]), IsV (.agg #[.bool (qneg Z), .slice AZ nZ cZ, .slice BZ mZ dZ]), IsQL [Y, Z] 257, IsQ (Y * Z) 515, IsV (.bool true), IsV (.bool true), IsV (.bool true)] (From W) (by kernel_rfl) (by kernel_rfl) (by kernel_rfl) rfl From.lasting (From.drew hF) ?_
      simp only [List.take_succ_cons, List.drop_succ_cons, List.take_nil, List.drop_nil]
      refine Tab.cons IsV.lasting (fun wx hx hd => ?_) (fun v48 => ?_)
      · skip
        clear hd
        intro KK hK
        go_simp
        exact hK.out _ _ rfl (Below.refl _ _)
      simp only [Act.put, List.setIfInBounds_toArray, List.set_cons_zero, List.set_cons_succ]
      refine Tab.cons IsV.lasting (fun wx hx hd => ?_) (fun v49 => ?_)
      · skip
        have e48 : v48 = _ := (hd _ (.head _) (by kernel_rfl) : (IsV (.int .i64 0)) v48 wx)
        subst e48
        clear hd
        intro KK hK
        go_simp
        exact hK.out _ _ rfl (Below.refl _ _)
      simp only [Act.put, List.setIfInBounds_toArray, List.set_cons_zero, List.set_cons_succ]
      refine Tab.cons IsV.lasting (fun wx hx hd => ?_) (fun v50 => ?_)
      · skip
        have e49 : v49 = _ := (hd _ (.head _) (by kernel_rfl) : (IsV (.bool true)) v49 wx)
        subst e49
        clear hd
        intro KK hK
        go_simp
        exact hK.out _ _ rfl (Below.refl _ _)
      simp only [Act.put, List.setIfInBounds_toArray, List.set_cons_zero, List.set_cons_succ]
      refine Tab.cons IsV.lasting (fun wx hx hd => ?_) (fun v51 => ?_)
      · skip
        have e50 : v50 = _ := (hd _ (.head _) (by kernel_rfl) : (IsV (.bool true)) v50 wx)
        subst e50
        clear hd
        intro KK hK
        go_simp
        exact hK.out _ _ rfl (Below.refl _ _)
      simp only [Act.put, List.setIfInBounds_toArray, List.set_cons_zero, List.set_cons_succ]
      refine Tab.cons IsV.lasting (fun wx hx hd => ?_) (fun v52 => ?_)
      · skip
        have e51 : v51 = _ := (hd _ (.head _) (by kernel_rfl) : (IsV (.int .i64 0)) v51 wx)
        subst e51
        have e50 : v50 = _ := (hd _ (.tail _ (.head _)) (by kernel_rfl) : (IsV (.bool true)) v50 wx)
        subst e50
        clear hd
        intro KK hK
        go_simp
        exact hK.out _ _ rfl (Below.refl _ _)
      simp only [Act.put, List.setIfInBounds_toArray, List.set_cons_zero, List.set_cons_succ]
      refine Tab.cons IsV.lasting (fun wx hx hd => ?_) (fun v53 => ?_)
      · skip
        have e50 : v50 = _ := (hd _ (.tail _ (.tail _ (.head _))) (by kernel_rfl) : (IsV (.bool true)) v50 wx)
        subst e50
        have e52 : v52 = _ := (hd _ (.head _) (by kernel_rfl) : (IsV (.bool true)) v52 wx)
        subst e52
        clear hd
        intro KK hK
        go_simp
        exact hK.out _ _ rfl (Below.refl _ _)
      simp only [Act.put, List.setIfInBounds_toArray, List.set_cons_zero, List.set_cons_succ]
      refine Tab.cons IsV.lasting (fun wx hx hd => ?_) (fun v54 => ?_)
      · skip
        have e53 : v53 = _ := (hd _ (.head _) (by kernel_rfl) : (IsV (.bool true)) v53 wx)
        subst e53
        clear hd
        intro KK hK
        go_simp
        exact hK.out _ _ rfl (Below.refl _ _)
      simp only [Act.put, List.setIfInBounds_toArray, List.set_cons_zero, List.set_cons_succ]
      refine Tab.cons IsV.lasting (fun wx hx hd => ?_) (fun v55 => ?_)
      · skip
        have e54 : v54 = _ := (hd _ (.head _) (by kernel_rfl) : (IsV (.bool true)) v54 wx)
        subst e54
        clear hd
        intro KK hK
        go_simp
        exact hK.out _ _ rfl (Below.refl _ _)
      simp only [Act.put, List.setIfInBounds_toArray, List.set_cons_zero, List.set_cons_succ]
      refine Tab.cons IsV.lasting (fun wx hx hd => ?_) (fun v56 => ?_)
      · skip
        have e55 : v55 = _ := (hd _ (.head _) (by kernel_rfl) : (IsV (.int .i64 0)) v55 wx)
        subst e55
        have e54 : v54 = _ := (hd _ (.tail _ (.head _)) (by kernel_rfl) : (IsV (.bool true)) v54 wx)
        subst e54
        clear hd
        intro KK hK
        go_simp
        exact hK.out _ _ rfl (Below.refl _ _)
      simp only [Act.put, List.setIfInBounds_toArray, List.set_cons_zero, List.set_cons_succ]
      refine Tab.cons IsV.lasting (fun wx hx hd => ?_) (fun v57 => ?_)
      · skip
        have e54 : v54 = _ := (hd _ (.tail _ (.tail _ (.head _))) (by kernel_rfl) : (IsV (.bool true)) v54 wx)
        subst e54
        have e56 : v56 = _ := (hd _ (.head _) (by kernel_rfl) : (IsV (.bool true)) v56 wx)
        subst e56
        clear hd
        intro KK hK
        go_simp
        exact hK.out _ _ rfl (Below.refl _ _)
      simp only [Act.put, List.setIfInBounds_toArray, List.set_cons_zero, List.set_cons_succ]
      refine Tab.cons IsV.lasting (fun wx hx hd => ?_) (fun v58 => ?_)
      · skip
        have e57 : v57 = _ := (hd _ (.head _) (by kernel_rfl) : (IsV (.bool true)) v57 wx)
        subst e57
        clear hd
        intro KK hK
        go_simp
        exact hK.out _ _ rfl (Below.refl _ _)
      simp only [Act.put, List.setIfInBounds_toArray, List.set_cons_zero, List.set_cons_succ]
      refine Tab.cons IsV.lasting (fun wx hx hd => ?_) (fun v59 => ?_)
      · skip
        have e58 : v58 = _ := (hd _ (.head _) (by kernel_rfl) : (IsV (.bool true)) v58 wx)
        subst e58
        clear hd
        intro KK hK
        have hcell := (QX.out.later hx).cells
        go_simp
        exact hK.out _ _ rfl (Below.refl _ _)
      simp only [Act.put, List.setIfInBounds_toArray, List.set_cons_zero, List.set_cons_succ]
      refine Tab.cons IsV.lasting (fun wx hx hd => ?_) (fun v60 => ?_)
      · skip
        have e58 : v58 = _ := (hd _ (.tail _ (.head _)) (by kernel_rfl) : (IsV (.bool true)) v58 wx)
        subst e58
        clear hd
        intro KK hK
        have hcell := (QY.out.later hx).cells
        go_simp
        exact hK.out _ _ rfl (Below.refl _ _)
      simp only [Act.put, List.setIfInBounds_toArray, List.set_cons_zero, List.set_cons_succ]
      refine Tab.cons IsV.lasting (fun wx hx hd => ?_) (fun v61 => ?_)
      · skip
        have e58 : v58 = _ := (hd _ (.tail _ (.tail _ (.head _))) (by kernel_rfl) : (IsV (.bool true)) v58 wx)
        subst e58
        clear hd
        intro KK hK
        have hcell := (QZ.out.later hx).cells
        go_simp
        exact hK.out _ _ rfl (Below.refl _ _)
      simp only [Act.put, List.setIfInBounds_toArray, List.set_cons_zero, List.set_cons_succ]
      refine Tab.cons IsQL.lasting (fun wx hx hd => ?_) (fun v62 => ?_)
      · skip
        have e60 : v60 = _ := (hd _ (.tail _ (.head _)) (by kernel_rfl) : (IsV (.agg #[.bool (qneg Y), .slice AY nY cY, .slice BY mY dY])) v60 wx)
        subst e60
        have e61 : v61 = _ := (hd _ (.head _) (by kernel_rfl) : (IsV (.agg #[.bool (qneg Z), .slice AZ nZ cZ, .slice BZ mZ dZ])) v61 wx)
        subst e61
        have e58 : v58 = _ := (hd _ (.tail _ (.tail _ (.tail _ (.head _)))) (by kernel_rfl) : (IsV (.bool true)) v58 wx)
        subst e58
        clear hd
        intro KK hK
        go_simp
        exact hK.out _ _ ⟨_, rfl, ql_two rfl (canY.below hx.out).raw (canZ.below hx.out).raw (by omega) (by omega)⟩ (below_alloc _ _)
      simp only [Act.put, List.setIfInBounds_toArray, List.set_cons_zero, List.set_cons_succ]
      refine Tab.cons IsQ.lasting (fun wx hx hd => ?_) (fun v63 => ?_)
      · skip
        obtain ⟨g62, rfl, h62⟩ := (hd _ (.head _) (by kernel_rfl) : (IsQL [Y, Z] 257) v62 wx)
        have e58 : v58 = _ := (hd _ (.tail _ (.tail _ (.tail _ (.tail _ (.head _))))) (by kernel_rfl) : (IsV (.bool true)) v58 wx)
        subst e58
        clear hd
        intro KK hK
        go_simp
        refine (qmul_list h62 (by omega) (by omega)).mono ?_
        rw [show prodQ [Y, Z] = Y * Z by simp only [prodQ]; grind]
        rintro e w' ⟨A', n', c', B', m', d', rfl, hc', hb'⟩
        exact hK.out _ _ ⟨A', n', c', B', m', d', rfl, hc'⟩ hb'
      simp only [Act.put, List.setIfInBounds_toArray, List.set_cons_zero, List.set_cons_succ]
      refine Tab.cons IsV.lasting (fun wx hx hd => ?_) (fun v64 => ?_)
      · skip
        have e59 : v59 = _ := (hd _ (.tail _ (.tail _ (.tail _ (.tail _ (.head _))))) (by kernel_rfl) : (IsV (.agg #[.bool (qneg X), .slice AX nX cX, .slice BX mX dX])) v59 wx)
        subst e59
        obtain ⟨A63, n63, c63, B63, m63, d63, rfl, h63⟩ := (hd _ (.head _) (by kernel_rfl) : (IsQ (Y * Z) 515) v63 wx)
        have e58 : v58 = _ := (hd _ (.tail _ (.tail _ (.tail _ (.tail _ (.tail _ (.head _)))))) (by kernel_rfl) : (IsV (.bool true)) v58 wx)
        subst e58
        clear hd
        intro KK hK
        go_simp
        refine (same_q_yes (canX.below hx.out) h63 HADD.out).mono ?_
        rintro e w' ⟨rfl, hb'⟩
        exact hK.out _ _ rfl hb'
      simp only [Act.put, List.setIfInBounds_toArray, List.set_cons_zero, List.set_cons_succ]
      refine Tab.cons IsV.lasting (fun wx hx hd => ?_) (fun v65 => ?_)
      · skip
        have e58 : v58 = _ := (hd _ (.tail _ (.tail _ (.tail _ (.tail _ (.tail _ (.tail _ (.head _))))))) (by kernel_rfl) : (IsV (.bool true)) v58 wx)
        subst e58
        have e64 : v64 = _ := (hd _ (.head _) (by kernel_rfl) : (IsV (.bool true)) v64 wx)
        subst e64
        clear hd
        intro KK hK
        go_simp
        exact hK.out _ _ rfl (Below.refl _ _)
      simp only [Act.put, List.setIfInBounds_toArray, List.set_cons_zero, List.set_cons_succ]
      refine Tab.cons IsV.lasting (fun wx hx hd => ?_) (fun v6 => ?_)
      · skip
        have e65 : v65 = _ := (hd _ (.head _) (by kernel_rfl) : (IsV (.bool true)) v65 wx)
        subst e65
        clear hd
        intro KK hK
        go_simp
        exact hK.out _ _ rfl (Below.refl _ _)
      simp only [Act.put, List.setIfInBounds_toArray, List.set_cons_zero, List.set_cons_succ]
      refine Tab.nil fun wx hx hd => ?_
      have e6 : v6 = _ := (hd _ (.head _) : (IsV (.bool true)) v6 wx)
      subst e6
      clear hd
      go_wp2
      go_ret
      exact ⟨by rfl, below_step hx.out hB⟩
end Go.Proofs.Ytlomanhmpbapeaa
