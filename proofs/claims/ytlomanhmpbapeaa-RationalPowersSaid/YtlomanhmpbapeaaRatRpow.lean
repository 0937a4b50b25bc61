/- The walks of the reference's Inv and Pow. -/
import Derived.Test.YtlomanhmpbapeaaRatPow
namespace Go.Proofs.Ytlomanhmpbapeaa
open Go.RowKit

theorem rpow_yes {w : World} {A : Option Addr} {n c X m k : Nat} (h : Rd w A n c (limbs X)) (hn : n ≤ 1000000) (hm : m ≤ 9223372036854775807) (hl : (limbs (X ^ m)).length ≤ k) (hk : k ≤ 4096) :
    Calls Try.prog 68 #[.slice A n c, .int .i64 (m : Int)] w fun x w' => ∃ A' n' c', x = .returned (.tuple #[.slice A' n' c', .int .i64 0]) ∧ Rd w' A' n' c' (limbs (X ^ m)) ∧ n' ≤ k ∧ Below w.heap.size w w' := by
  refine (rpow_any A n c _ (m : Int) w h hn (by omega)).mono ?_
  rintro e w' ⟨A', n', c', rfl, h', hb⟩
  rw [val_limbs] at h' ⊢
  obtain ⟨h1, h2⟩ := powErr_ok (N := X) (n := m) (by omega)
  rw [h2] at h'
  rw [h1]
  exact ⟨A', n', c', rfl, h', by rw [← h'.len]; exact hl, hb⟩
theorem rpow_no {w : World} {A : Option Addr} {n c X m : Nat} (h : Rd w A n c (limbs X)) (hn : n ≤ 1000000) (hm : m ≤ 9223372036854775807) (hl : 4096 < (limbs (X ^ m)).length) :
    Calls Try.prog 68 #[.slice A n c, .int .i64 (m : Int)] w fun x w' => ∃ A' n' c', x = .returned (.tuple #[.slice A' n' c', .int .i64 8]) ∧ Below w.heap.size w w' := by
  refine (rpow_any A n c _ (m : Int) w h hn (by omega)).mono ?_
  rintro e w' ⟨A', n', c', rfl, h', hb⟩
  rw [val_limbs]
  rw [(powErr_big hl).1]
  exact ⟨A', n', c', rfl, hb⟩
theorem pow_flag_one {u s' : Bool} {k j m : Nat} {q : Rat} (h : ratOf u 1 1 = q) (hs : s' = (u && decide (m % 2 ≠ 0))) : ratOf s' (1 ^ k) (1 ^ j) = q ^ m := by
  have := pow_flag (N := 1) (D := 1) (m := m) h hs
  simp only [Nat.one_pow] at this ⊢
  exact this
/-- The inverse of a rational other than 0, as data. -/
def RetInv (q : Rat) (K : Nat) (w : World) (x : Ending) (w' : World) : Prop :=
  ∃ A n c B m d, x = .returned (.agg #[.bool (qneg q), .slice B m d, .slice A n c]) ∧ CanQ w' A n c B m d q K ∧ Below w.heap.size w w'
set_option maxHeartbeats 4000000 in
theorem rinv_q (s : Bool) (A : Option Addr) (n c : Nat) (B : Option Addr) (m d : Nat) (q : Rat) (K : Nat) (w : World) (h : RawQ w s A n c B m d q K) (hK1 : 1 ≤ K) (hK : K ≤ 1000) :
    Calls Try.prog 67 #[.agg #[.bool s, .slice A n c, .slice B m d]] w (RetInv q K w) := by
  obtain ⟨W0, hW0, hS, q1, q3⟩ := box2 w s A n c B m d
  have hr := h.below hS
  have HW := hide hW0
  clear hW0 h
  go_enter Try.func67, Try.ntmps67
  go_wp2_with fail
  rw [← HW.out]
  refine (rtrim_q _ _ _ _ _ _ _ _ K _ hr hK1 (by omega)).mono ?_
  rintro e w1 ⟨A', n', c', B', m', d', rfl, hcan, hb1⟩
  have q11 := q1.below hb1
  have q31 := q3.below hb1
  have hcg := q11.cells
  have hfg := q11.free
  have hc3 := q31.cells
  have hf3 := q31.free
  have ho := only3 w1 w.heap.size (.bool (qneg q)) (.slice A' n' c') (.slice B' m' d')
  have hcans := hcan.far ho q11.noNum
  have q3s := BoxQ.only (g' := w.heap.size) q31 ho (by omega)
  have hBs := below3 (below_step hb1 hS) (Nat.le_refl _) (.bool (qneg q)) (.slice A' n' c') (.slice B' m' d')
  go_wp2
  exact bodyPost_ret (v := .agg #[.bool (qneg q), .slice B' m' d', .slice A' n' c']) (by simp [results, Try.results67, go_sem, hc3]) rfl ⟨A', n', c', B', m', d', rfl, hcans.store3 q3s.noNum, below3 hBs (by omega) _ _ _⟩

set_option maxHeartbeats 8000000 in
theorem rqpow_pos (s : Bool) (A : Option Addr) (n c : Nat) (B : Option Addr) (m d : Nat) (q : Rat) (K : Nat) (w : World) (h : RawQ w s A n c B m d q K) (hK1 : 1 ≤ K) (hK : K ≤ 900) (z : Nat) (hz : z ≤ 9223372036854775807) (Kp : Nat) (hKp1 : 1 ≤ Kp) (hKp : Kp ≤ 1000) (hl1 : (limbs (q.num.natAbs ^ z)).length ≤ Kp) (hl2 : (limbs (q.den ^ z)).length ≤ Kp) :
    Calls Try.prog 34 #[.agg #[.bool s, .slice A n c, .slice B m d], .int .i64 (z : Int)] w (RetQE (qpowV q (z : Int)) Kp w) := by
  have HR := hide (qpowV_pos q z)
  obtain ⟨u, hu⟩ : ∃ u, qneg q = u := ⟨_, rfl⟩
  have HE := hide (ratOf_own hu)
  have HU := hide hu
  clear hu
  obtain ⟨W0, hW0, hS, q1, q3⟩ := box2 w s A n c B m d
  have hr := h.below hS
  have HW := hide hW0
  clear hW0 h
  go_enter Try.func34, Try.ntmps34
  go_wp2_with fail
  rw [← HW.out]
  refine (rtrim_q _ _ _ _ _ _ _ _ K _ hr hK1 (by omega)).mono ?_
  rintro e w1 ⟨A', n', c', B', m', d', rfl, hcan, hb1⟩
  have q11 := q1.below hb1
  have hcg := q11.cells
  have hfg := q11.free
  have ho := only3 w1 w.heap.size (.bool (qneg q)) (.slice A' n' c') (.slice B' m' d')
  have hcans := hcan.far ho q11.noNum
  have q1s := q11.store3 (qneg q) A' n' c' B' m' d'
  have q3s := BoxQ.only (g' := w.heap.size) (q3.below hb1) ho (by omega)
  have hBs := below3 (below_step hb1 hS) (Nat.le_refl _) (.bool (qneg q)) (.slice A' n' c') (.slice B' m' d')
  obtain ⟨W, hW⟩ : ∃ W, W = ((w1.setCell ⟨w.heap.size, 0, none⟩ (.bool (qneg q))).setCell ⟨w.heap.size, 1, none⟩ (.slice A' n' c')).setCell ⟨w.heap.size, 2, none⟩ (.slice B' m' d') := ⟨_, rfl⟩
  have HW1 := hide hW.symm
  rw [← hW] at hcans q1s q3s hBs
  have e1 := hcans.num
  have e2 := hcans.den
  have hcl := hcans.hn
  have hcm := hcans.hm
  have Q1 := hide q1s
  have Q3 := hide q3s
  have hz3 := q3s.2
  clear hW ho hcan q11 hr hb1 q1 hS q1s q3 q3s
  rw [HU.out] at Q1 HW1
  cases u <;> (have hc0 := Q1.out.cells; rw [HU.out]; go_wp2_with fail; rw [HW1.out]; clear hc0)
  all_goals
    refine (rpow_yes (k := Kp) e1 (by omega) hz hl1 (by omega)).mono ?_
    rintro e w3 ⟨A3, n3, c3, rfl, h3, k3, hb3⟩
    have hc1 := (Q1.out.below hb3).cells
    go_wp2_with fail
    refine (rpow_yes (k := Kp) (e2.below hb3) (by omega) hz hl2 (by omega)).mono ?_
    rintro e w4 ⟨A4, n4, c4, rfl, h4, k4, hb4⟩
    clear hc1
    have hc1 := ((Q1.out.below hb3).below hb4).cells
    go_wp2_with fail
    refine (make_eqv (K := Kp) (r := q ^ z) (h3.below hb4) h4 (by (try simp only [val_limbs]); exact pow_flag HE.out (by first | rfl | (rw [Bool.eq_iff_iff]; simp; done) | (rw [Bool.eq_iff_iff]; simp; omega) | (cases u <;> simp <;> omega))) k3 k4 hKp1 (by omega)).mono ?_
    rintro e w5 ⟨A5, n5, c5, B5, m5, d5, rfl, hcan5, hb5⟩
    have q35 := ((Q3.out.below hb3).below hb4).below hb5
    have hBB := below_step hb5 (below_step hb4 (below_step hb3 hBs))
    clear hc1
    have hcg := q35.cells
    have hfg := q35.free
    go_wp2
    exact bodyPost_ret (v := .tuple #[.agg #[.bool (qneg (q ^ z)), .slice A5 n5 c5, .slice B5 m5 d5], .int .i64 0]) (by simp [results, Try.results34, go_sem, hcg]) rfl ⟨A5, n5, c5, B5, m5, d5, by rw [HR.out], by rw [HR.out]; exact hcan5.store3 q35.noNum, below3 hBB (by omega) _ _ _⟩

set_option maxHeartbeats 8000000 in
theorem rqpow_pos_big1 (s : Bool) (A : Option Addr) (n c : Nat) (B : Option Addr) (m d : Nat) (q : Rat) (K : Nat) (w : World) (h : RawQ w s A n c B m d q K) (hK1 : 1 ≤ K) (hK : K ≤ 900) (z : Nat) (hz : z ≤ 9223372036854775807) (hl1 : 4096 < (limbs (q.num.natAbs ^ z)).length) :
    Calls Try.prog 34 #[.agg #[.bool s, .slice A n c, .slice B m d], .int .i64 (z : Int)] w (ErrQ 8 w) := by
  obtain ⟨W0, hW0, hS, q1, q3⟩ := box2 w s A n c B m d
  have hr := h.below hS
  have HW := hide hW0
  clear hW0 h
  go_enter Try.func34, Try.ntmps34
  go_wp2_with fail
  rw [← HW.out]
  refine (rtrim_q _ _ _ _ _ _ _ _ K _ hr hK1 (by omega)).mono ?_
  rintro e w1 ⟨A', n', c', B', m', d', rfl, hcan, hb1⟩
  have q11 := q1.below hb1
  have hcg := q11.cells
  have hfg := q11.free
  have ho := only3 w1 w.heap.size (.bool (qneg q)) (.slice A' n' c') (.slice B' m' d')
  have hcans := hcan.far ho q11.noNum
  have q1s := q11.store3 (qneg q) A' n' c' B' m' d'
  have q3s := BoxQ.only (g' := w.heap.size) (q3.below hb1) ho (by omega)
  have hBs := below3 (below_step hb1 hS) (Nat.le_refl _) (.bool (qneg q)) (.slice A' n' c') (.slice B' m' d')
  obtain ⟨W, hW⟩ : ∃ W, W = ((w1.setCell ⟨w.heap.size, 0, none⟩ (.bool (qneg q))).setCell ⟨w.heap.size, 1, none⟩ (.slice A' n' c')).setCell ⟨w.heap.size, 2, none⟩ (.slice B' m' d') := ⟨_, rfl⟩
  have HW1 := hide hW.symm
  rw [← hW] at hcans q1s q3s hBs
  have e1 := hcans.num
  have e2 := hcans.den
  have hcl := hcans.hn
  have hcm := hcans.hm
  have Q1 := hide q1s
  have Q3 := hide q3s
  have hz3 := q3s.2
  clear hW ho hcan q11 hr hb1 q1 hS q1s q3 q3s
  have hc0 := Q1.out.cells
  go_wp2_with fail
  rw [HW1.out]
  clear hc0
  refine (rpow_no e1 (by omega) hz hl1).mono ?_
  rintro e w3 ⟨A3, n3, c3, rfl, hb3⟩
  have hc1 := (Q1.out.below hb3).cells
  go_wp2_with fail
  refine (rpow_any _ _ _ _ _ _ (e2.below hb3) (by omega) (by omega)).mono ?_
  rintro e w4 ⟨A4, n4, c4, rfl, -, hb4⟩
  clear hc1
  have q3e := ((Q3.out.below hb3).below hb4)
  have hcg := q3e.cells
  have hfg := q3e.free
  go_wp2
  exact bodyPost_ret (v := .tuple #[.agg #[.bool false, .slice none 0 0, .slice none 0 0], .int .i64 8]) (by simp [results, Try.results34, go_sem, hcg]) rfl ⟨rfl, by first | exact (below_step hb4 (below_step hb3 hBs)) | exact below3 (below_step hb4 (below_step hb3 hBs)) (by omega) _ _ _⟩

set_option maxHeartbeats 8000000 in
theorem rqpow_pos_big2 (s : Bool) (A : Option Addr) (n c : Nat) (B : Option Addr) (m d : Nat) (q : Rat) (K : Nat) (w : World) (h : RawQ w s A n c B m d q K) (hK1 : 1 ≤ K) (hK : K ≤ 900) (z : Nat) (hz : z ≤ 9223372036854775807) (hl1 : (limbs (q.num.natAbs ^ z)).length ≤ 4096) (hl2 : 4096 < (limbs (q.den ^ z)).length) :
    Calls Try.prog 34 #[.agg #[.bool s, .slice A n c, .slice B m d], .int .i64 (z : Int)] w (ErrQ 8 w) := by
  obtain ⟨W0, hW0, hS, q1, q3⟩ := box2 w s A n c B m d
  have hr := h.below hS
  have HW := hide hW0
  clear hW0 h
  go_enter Try.func34, Try.ntmps34
  go_wp2_with fail
  rw [← HW.out]
  refine (rtrim_q _ _ _ _ _ _ _ _ K _ hr hK1 (by omega)).mono ?_
  rintro e w1 ⟨A', n', c', B', m', d', rfl, hcan, hb1⟩
  have q11 := q1.below hb1
  have hcg := q11.cells
  have hfg := q11.free
  have ho := only3 w1 w.heap.size (.bool (qneg q)) (.slice A' n' c') (.slice B' m' d')
  have hcans := hcan.far ho q11.noNum
  have q1s := q11.store3 (qneg q) A' n' c' B' m' d'
  have q3s := BoxQ.only (g' := w.heap.size) (q3.below hb1) ho (by omega)
  have hBs := below3 (below_step hb1 hS) (Nat.le_refl _) (.bool (qneg q)) (.slice A' n' c') (.slice B' m' d')
  obtain ⟨W, hW⟩ : ∃ W, W = ((w1.setCell ⟨w.heap.size, 0, none⟩ (.bool (qneg q))).setCell ⟨w.heap.size, 1, none⟩ (.slice A' n' c')).setCell ⟨w.heap.size, 2, none⟩ (.slice B' m' d') := ⟨_, rfl⟩
  have HW1 := hide hW.symm
  rw [← hW] at hcans q1s q3s hBs
  have e1 := hcans.num
  have e2 := hcans.den
  have hcl := hcans.hn
  have hcm := hcans.hm
  have Q1 := hide q1s
  have Q3 := hide q3s
  have hz3 := q3s.2
  clear hW ho hcan q11 hr hb1 q1 hS q1s q3 q3s
  have hc0 := Q1.out.cells
  go_wp2_with fail
  rw [HW1.out]
  clear hc0
  refine (rpow_yes (k := 4096) e1 (by omega) hz hl1 (Nat.le_refl _)).mono ?_
  rintro e w3 ⟨A3, n3, c3, rfl, h3, k3, hb3⟩
  have hc1 := (Q1.out.below hb3).cells
  go_wp2_with fail
  refine (rpow_no (e2.below hb3) (by omega) hz hl2).mono ?_
  rintro e w4 ⟨A4, n4, c4, rfl, hb4⟩
  clear hc1
  have q3e := ((Q3.out.below hb3).below hb4)
  have hcg := q3e.cells
  have hfg := q3e.free
  go_wp2
  exact bodyPost_ret (v := .tuple #[.agg #[.bool false, .slice none 0 0, .slice none 0 0], .int .i64 8]) (by simp [results, Try.results34, go_sem, hcg]) rfl ⟨rfl, by first | exact (below_step hb4 (below_step hb3 hBs)) | exact below3 (below_step hb4 (below_step hb3 hBs)) (by omega) _ _ _⟩

set_option maxHeartbeats 8000000 in
theorem rqpow_neg (s : Bool) (A : Option Addr) (n c : Nat) (B : Option Addr) (m d : Nat) (q : Rat) (K : Nat) (w : World) (h : RawQ w s A n c B m d q K) (hK1 : 1 ≤ K) (hK : K ≤ 900) (z : Nat) (hz1 : 1 ≤ z) (hz : z ≤ 4611686018427387904) (h0 : q ≠ 0) (Kp : Nat) (hKp1 : 1 ≤ Kp) (hKp : Kp ≤ 1000) (hl1 : (limbs (q.num.natAbs ^ z)).length ≤ Kp) (hl2 : (limbs (q.den ^ z)).length ≤ Kp) :
    Calls Try.prog 34 #[.agg #[.bool s, .slice A n c, .slice B m d], .int .i64 (-(z : Int))] w (RetQE (qpowV q (-(z : Int))) Kp w) := by
  have HR := hide (qpowV_neg q (m := z) (by omega))
  obtain ⟨u, hu⟩ : ∃ u, qneg q = u := ⟨_, rfl⟩
  have HE := hide (ratOf_swap hu)
  have HU := hide hu
  clear hu
  have hx2 : (-(z : Int)) < 0 := by omega
  have hx3 : -4611686018427387904 ≤ (-(z : Int)) := by omega
  have hx4 : ¬ (-(z : Int)) < -4611686018427387904 := by omega
  have hx5 : min (z : Int) 4611686018427387904 = (z : Int) := by omega
  obtain ⟨W0, hW0, hS, q1, q3⟩ := box2 w s A n c B m d
  have hr := h.below hS
  have HW := hide hW0
  clear hW0 h
  go_enter Try.func34, Try.ntmps34
  go_wp2_with fail
  rw [← HW.out]
  refine (rtrim_q _ _ _ _ _ _ _ _ K _ hr hK1 (by omega)).mono ?_
  rintro e w1 ⟨A', n', c', B', m', d', rfl, hcan, hb1⟩
  have q11 := q1.below hb1
  have hcg := q11.cells
  have hfg := q11.free
  have ho := only3 w1 w.heap.size (.bool (qneg q)) (.slice A' n' c') (.slice B' m' d')
  have hcans := hcan.far ho q11.noNum
  have q1s := q11.store3 (qneg q) A' n' c' B' m' d'
  have q3s := BoxQ.only (g' := w.heap.size) (q3.below hb1) ho (by omega)
  have hBs := below3 (below_step hb1 hS) (Nat.le_refl _) (.bool (qneg q)) (.slice A' n' c') (.slice B' m' d')
  obtain ⟨W, hW⟩ : ∃ W, W = ((w1.setCell ⟨w.heap.size, 0, none⟩ (.bool (qneg q))).setCell ⟨w.heap.size, 1, none⟩ (.slice A' n' c')).setCell ⟨w.heap.size, 2, none⟩ (.slice B' m' d') := ⟨_, rfl⟩
  have HW1 := hide hW.symm
  rw [← hW] at hcans q1s q3s hBs
  have e1 := hcans.num
  have e2 := hcans.den
  have hcl := hcans.hn
  have hcm := hcans.hm
  have Q1 := hide q1s
  have Q3 := hide q3s
  have hz3 := q3s.2
  clear hW ho hcan q11 hr hb1 q1 hS q1s q3 q3s
  have hn0 : n' ≠ 0 := mt (num_len_zero hcans).1 h0
  have hn1 : ((n' : Int) == 0) = false := by simp; exact hn0
  clear hn0
  have hc0 := Q1.out.cells
  go_wp2_with fail
  rw [HW1.out]
  refine (rinv_q _ _ _ _ _ _ _ _ K _ hcans.raw hK1 (by omega)).mono ?_
  rintro e w2 ⟨A6, n6, c6, B6, m6, d6, rfl, hcan6, hb2⟩
  clear hc0 hcg hfg hn1
  have q12 := Q1.out.below hb2
  have hcg := q12.cells
  have hfg := q12.free
  have ho := only3 w2 w.heap.size (.bool (qneg q)) (.slice B6 m6 d6) (.slice A6 n6 c6)
  have hcanv := hcan6.far ho q12.noNum
  have Q1v := hide (q12.store3 (qneg q) B6 m6 d6 A6 n6 c6)
  have Q3v := hide (BoxQ.only (g' := w.heap.size) (Q3.out.below hb2) ho (by omega))
  have hBv := below3 (below_step hb2 hBs) (Nat.le_refl _) (.bool (qneg q)) (.slice B6 m6 d6) (.slice A6 n6 c6)
  go_wp2_with fail
  obtain ⟨V, hV⟩ : ∃ V, V = ((w2.setCell ⟨w.heap.size, 0, none⟩ (.bool (qneg q))).setCell ⟨w.heap.size, 1, none⟩ (.slice B6 m6 d6)).setCell ⟨w.heap.size, 2, none⟩ (.slice A6 n6 c6) := ⟨_, rfl⟩
  rw [← hV] at hcanv Q1v Q3v hBv ⊢
  clear hV hcg hfg ho q12 hb2
  have v1 := hcanv.den
  have v2 := hcanv.num
  have k1 := hcanv.hn
  have k2 := hcanv.hm
  rw [HU.out] at Q1v ⊢
  cases u
  all_goals
    refine (rpow_yes (k := Kp) v1 (by omega) (by omega) hl2 (by omega)).mono ?_
    rintro e w3 ⟨A3, n3, c3, rfl, h3, k3, hb3⟩
    have hc1 := (Q1v.out.below hb3).cells
    go_wp2_with fail
    refine (rpow_yes (k := Kp) (v2.below hb3) (by omega) (by omega) hl1 (by omega)).mono ?_
    rintro e w4 ⟨A4, n4, c4, rfl, h4, k4, hb4⟩
    clear hc1
    have hc1 := ((Q1v.out.below hb3).below hb4).cells
    go_wp2_with fail
    refine (make_eqv (K := Kp) (r := q⁻¹ ^ z) (h3.below hb4) h4 (by (try simp only [val_limbs]); exact pow_flag HE.out (by first | rfl | (rw [Bool.eq_iff_iff]; simp; done) | (rw [Bool.eq_iff_iff]; simp; omega) | (cases u <;> simp <;> omega))) k3 k4 hKp1 (by omega)).mono ?_
    rintro e w5 ⟨A5, n5, c5, B5, m5, d5, rfl, hcan5, hb5⟩
    have q35 := ((Q3v.out.below hb3).below hb4).below hb5
    have hBB := below_step hb5 (below_step hb4 (below_step hb3 hBv))
    clear hc1
    have hcg := q35.cells
    have hfg := q35.free
    go_wp2
    exact bodyPost_ret (v := .tuple #[.agg #[.bool (qneg (q⁻¹ ^ z)), .slice A5 n5 c5, .slice B5 m5 d5], .int .i64 0]) (by simp [results, Try.results34, go_sem, hcg]) rfl ⟨A5, n5, c5, B5, m5, d5, by rw [HR.out], by rw [HR.out]; exact hcan5.store3 q35.noNum, below3 hBB (by omega) _ _ _⟩

set_option maxHeartbeats 8000000 in
theorem rqpow_neg_big1 (s : Bool) (A : Option Addr) (n c : Nat) (B : Option Addr) (m d : Nat) (q : Rat) (K : Nat) (w : World) (h : RawQ w s A n c B m d q K) (hK1 : 1 ≤ K) (hK : K ≤ 900) (z : Nat) (hz1 : 1 ≤ z) (hz : z ≤ 4611686018427387904) (h0 : q ≠ 0) (hl1 : 4096 < (limbs (q.den ^ z)).length) :
    Calls Try.prog 34 #[.agg #[.bool s, .slice A n c, .slice B m d], .int .i64 (-(z : Int))] w (ErrQ 8 w) := by
  have hx2 : (-(z : Int)) < 0 := by omega
  have hx3 : -4611686018427387904 ≤ (-(z : Int)) := by omega
  have hx4 : ¬ (-(z : Int)) < -4611686018427387904 := by omega
  have hx5 : min (z : Int) 4611686018427387904 = (z : Int) := by omega
  obtain ⟨W0, hW0, hS, q1, q3⟩ := box2 w s A n c B m d
  have hr := h.below hS
  have HW := hide hW0
  clear hW0 h
  go_enter Try.func34, Try.ntmps34
  go_wp2_with fail
  rw [← HW.out]
  refine (rtrim_q _ _ _ _ _ _ _ _ K _ hr hK1 (by omega)).mono ?_
  rintro e w1 ⟨A', n', c', B', m', d', rfl, hcan, hb1⟩
  have q11 := q1.below hb1
  have hcg := q11.cells
  have hfg := q11.free
  have ho := only3 w1 w.heap.size (.bool (qneg q)) (.slice A' n' c') (.slice B' m' d')
  have hcans := hcan.far ho q11.noNum
  have q1s := q11.store3 (qneg q) A' n' c' B' m' d'
  have q3s := BoxQ.only (g' := w.heap.size) (q3.below hb1) ho (by omega)
  have hBs := below3 (below_step hb1 hS) (Nat.le_refl _) (.bool (qneg q)) (.slice A' n' c') (.slice B' m' d')
  obtain ⟨W, hW⟩ : ∃ W, W = ((w1.setCell ⟨w.heap.size, 0, none⟩ (.bool (qneg q))).setCell ⟨w.heap.size, 1, none⟩ (.slice A' n' c')).setCell ⟨w.heap.size, 2, none⟩ (.slice B' m' d') := ⟨_, rfl⟩
  have HW1 := hide hW.symm
  rw [← hW] at hcans q1s q3s hBs
  have e1 := hcans.num
  have e2 := hcans.den
  have hcl := hcans.hn
  have hcm := hcans.hm
  have Q1 := hide q1s
  have Q3 := hide q3s
  have hz3 := q3s.2
  clear hW ho hcan q11 hr hb1 q1 hS q1s q3 q3s
  have hn0 : n' ≠ 0 := mt (num_len_zero hcans).1 h0
  have hn1 : ((n' : Int) == 0) = false := by simp; exact hn0
  clear hn0
  have hc0 := Q1.out.cells
  go_wp2_with fail
  rw [HW1.out]
  refine (rinv_q _ _ _ _ _ _ _ _ K _ hcans.raw hK1 (by omega)).mono ?_
  rintro e w2 ⟨A6, n6, c6, B6, m6, d6, rfl, hcan6, hb2⟩
  clear hc0 hcg hfg hn1
  have q12 := Q1.out.below hb2
  have hcg := q12.cells
  have hfg := q12.free
  have ho := only3 w2 w.heap.size (.bool (qneg q)) (.slice B6 m6 d6) (.slice A6 n6 c6)
  have hcanv := hcan6.far ho q12.noNum
  have Q1v := hide (q12.store3 (qneg q) B6 m6 d6 A6 n6 c6)
  have Q3v := hide (BoxQ.only (g' := w.heap.size) (Q3.out.below hb2) ho (by omega))
  have hBv := below3 (below_step hb2 hBs) (Nat.le_refl _) (.bool (qneg q)) (.slice B6 m6 d6) (.slice A6 n6 c6)
  go_wp2_with fail
  obtain ⟨V, hV⟩ : ∃ V, V = ((w2.setCell ⟨w.heap.size, 0, none⟩ (.bool (qneg q))).setCell ⟨w.heap.size, 1, none⟩ (.slice B6 m6 d6)).setCell ⟨w.heap.size, 2, none⟩ (.slice A6 n6 c6) := ⟨_, rfl⟩
  rw [← hV] at hcanv Q1v Q3v hBv ⊢
  clear hV hcg hfg ho q12 hb2
  have v1 := hcanv.den
  have v2 := hcanv.num
  have k1 := hcanv.hn
  have k2 := hcanv.hm
  refine (rpow_no v1 (by omega) (by omega) hl1).mono ?_
  rintro e w3 ⟨A3, n3, c3, rfl, hb3⟩
  have hc1 := (Q1v.out.below hb3).cells
  go_wp2_with fail
  refine (rpow_any _ _ _ _ _ _ (v2.below hb3) (by omega) (by omega)).mono ?_
  rintro e w4 ⟨A4, n4, c4, rfl, -, hb4⟩
  clear hc1
  have q3e := ((Q3v.out.below hb3).below hb4)
  have hcg := q3e.cells
  have hfg := q3e.free
  go_wp2
  exact bodyPost_ret (v := .tuple #[.agg #[.bool false, .slice none 0 0, .slice none 0 0], .int .i64 8]) (by simp [results, Try.results34, go_sem, hcg]) rfl ⟨rfl, by first | exact (below_step hb4 (below_step hb3 hBv)) | exact below3 (below_step hb4 (below_step hb3 hBv)) (by omega) _ _ _⟩

set_option maxHeartbeats 8000000 in
theorem rqpow_neg_big2 (s : Bool) (A : Option Addr) (n c : Nat) (B : Option Addr) (m d : Nat) (q : Rat) (K : Nat) (w : World) (h : RawQ w s A n c B m d q K) (hK1 : 1 ≤ K) (hK : K ≤ 900) (z : Nat) (hz1 : 1 ≤ z) (hz : z ≤ 4611686018427387904) (h0 : q ≠ 0) (hl1 : (limbs (q.den ^ z)).length ≤ 4096) (hl2 : 4096 < (limbs (q.num.natAbs ^ z)).length) :
    Calls Try.prog 34 #[.agg #[.bool s, .slice A n c, .slice B m d], .int .i64 (-(z : Int))] w (ErrQ 8 w) := by
  have hx2 : (-(z : Int)) < 0 := by omega
  have hx3 : -4611686018427387904 ≤ (-(z : Int)) := by omega
  have hx4 : ¬ (-(z : Int)) < -4611686018427387904 := by omega
  have hx5 : min (z : Int) 4611686018427387904 = (z : Int) := by omega
  obtain ⟨W0, hW0, hS, q1, q3⟩ := box2 w s A n c B m d
  have hr := h.below hS
  have HW := hide hW0
  clear hW0 h
  go_enter Try.func34, Try.ntmps34
  go_wp2_with fail
  rw [← HW.out]
  refine (rtrim_q _ _ _ _ _ _ _ _ K _ hr hK1 (by omega)).mono ?_
  rintro e w1 ⟨A', n', c', B', m', d', rfl, hcan, hb1⟩
  have q11 := q1.below hb1
  have hcg := q11.cells
  have hfg := q11.free
  have ho := only3 w1 w.heap.size (.bool (qneg q)) (.slice A' n' c') (.slice B' m' d')
  have hcans := hcan.far ho q11.noNum
  have q1s := q11.store3 (qneg q) A' n' c' B' m' d'
  have q3s := BoxQ.only (g' := w.heap.size) (q3.below hb1) ho (by omega)
  have hBs := below3 (below_step hb1 hS) (Nat.le_refl _) (.bool (qneg q)) (.slice A' n' c') (.slice B' m' d')
  obtain ⟨W, hW⟩ : ∃ W, W = ((w1.setCell ⟨w.heap.size, 0, none⟩ (.bool (qneg q))).setCell ⟨w.heap.size, 1, none⟩ (.slice A' n' c')).setCell ⟨w.heap.size, 2, none⟩ (.slice B' m' d') := ⟨_, rfl⟩
  have HW1 := hide hW.symm
  rw [← hW] at hcans q1s q3s hBs
  have e1 := hcans.num
  have e2 := hcans.den
  have hcl := hcans.hn
  have hcm := hcans.hm
  have Q1 := hide q1s
  have Q3 := hide q3s
  have hz3 := q3s.2
  clear hW ho hcan q11 hr hb1 q1 hS q1s q3 q3s
  have hn0 : n' ≠ 0 := mt (num_len_zero hcans).1 h0
  have hn1 : ((n' : Int) == 0) = false := by simp; exact hn0
  clear hn0
  have hc0 := Q1.out.cells
  go_wp2_with fail
  rw [HW1.out]
  refine (rinv_q _ _ _ _ _ _ _ _ K _ hcans.raw hK1 (by omega)).mono ?_
  rintro e w2 ⟨A6, n6, c6, B6, m6, d6, rfl, hcan6, hb2⟩
  clear hc0 hcg hfg hn1
  have q12 := Q1.out.below hb2
  have hcg := q12.cells
  have hfg := q12.free
  have ho := only3 w2 w.heap.size (.bool (qneg q)) (.slice B6 m6 d6) (.slice A6 n6 c6)
  have hcanv := hcan6.far ho q12.noNum
  have Q1v := hide (q12.store3 (qneg q) B6 m6 d6 A6 n6 c6)
  have Q3v := hide (BoxQ.only (g' := w.heap.size) (Q3.out.below hb2) ho (by omega))
  have hBv := below3 (below_step hb2 hBs) (Nat.le_refl _) (.bool (qneg q)) (.slice B6 m6 d6) (.slice A6 n6 c6)
  go_wp2_with fail
  obtain ⟨V, hV⟩ : ∃ V, V = ((w2.setCell ⟨w.heap.size, 0, none⟩ (.bool (qneg q))).setCell ⟨w.heap.size, 1, none⟩ (.slice B6 m6 d6)).setCell ⟨w.heap.size, 2, none⟩ (.slice A6 n6 c6) := ⟨_, rfl⟩
  rw [← hV] at hcanv Q1v Q3v hBv ⊢
  clear hV hcg hfg ho q12 hb2
  have v1 := hcanv.den
  have v2 := hcanv.num
  have k1 := hcanv.hn
  have k2 := hcanv.hm
  refine (rpow_yes (k := 4096) v1 (by omega) (by omega) hl1 (Nat.le_refl _)).mono ?_
  rintro e w3 ⟨A3, n3, c3, rfl, h3, k3, hb3⟩
  have hc1 := (Q1v.out.below hb3).cells
  go_wp2_with fail
  refine (rpow_no (v2.below hb3) (by omega) (by omega) hl2).mono ?_
  rintro e w4 ⟨A4, n4, c4, rfl, hb4⟩
  clear hc1
  have q3e := ((Q3v.out.below hb3).below hb4)
  have hcg := q3e.cells
  have hfg := q3e.free
  go_wp2
  exact bodyPost_ret (v := .tuple #[.agg #[.bool false, .slice none 0 0, .slice none 0 0], .int .i64 8]) (by simp [results, Try.results34, go_sem, hcg]) rfl ⟨rfl, by first | exact (below_step hb4 (below_step hb3 hBv)) | exact below3 (below_step hb4 (below_step hb3 hBv)) (by omega) _ _ _⟩
end Go.Proofs.Ytlomanhmpbapeaa
