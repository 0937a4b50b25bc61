/- The walk of rational.Pow. -/
import Derived.Test.YtlomanhmpbapeaaRatSub
import Derived.Test.YtlomanhmpbapeaaRatMake
namespace Go.Proofs.Ytlomanhmpbapeaa
open Go.RowKit

/-- A power with an exponent of either sign. -/
def qpowV (q : Rat) (z : Int) : Rat := if z < 0 then q⁻¹ ^ z.natAbs else q ^ z.natAbs
theorem big_two {N m : Nat} (hm : 131072 ≤ m) (hN : 2 ≤ N) : 4096 < (limbs (N ^ m)).length := by
  refine pow_big (by omega) ?_
  have h1 : 2 ≤ nbits N := by
    have h2 := lt_nbits N
    rcases Nat.lt_or_ge (nbits N) 2 with h | h
    · have : 2 ^ nbits N ≤ 2 ^ 1 := Nat.pow_le_pow_right (by omega) (by omega)
      omega
    · exact h
  have : 1 * m ≤ (nbits N - 1) * m := Nat.mul_le_mul_right _ (by omega)
  omega
theorem small_one {N m : Nat} (hN : N ≤ 1) : (limbs (N ^ m)).length ≤ 1 := by
  refine length_limbs_le ?_
  have : N ^ m ≤ 1 ^ m := Nat.pow_le_pow_left hN m
  rw [Nat.one_pow] at this
  omega
theorem big_not {N m : Nat} (h : 4096 < (limbs (N ^ m)).length) : 2 ≤ N := by
  rcases Nat.lt_or_ge N 2 with h1 | h1
  · have := small_one (m := m) (show N ≤ 1 by omega)
    omega
  · exact h1
theorem pow_yes {w : World} {A : Option Addr} {n c X m k : Nat} (h : Rd w A n c (limbs X)) (hn : n ≤ 1000000) (hm : m ≤ 9223372036854775807) (hl : (limbs (X ^ m)).length ≤ k) (hk : k ≤ 4096) :
    Calls Try.prog 66 #[.slice A n c, .int .i64 (m : Int)] w fun x w' => ∃ A' n' c', x = .returned (.tuple #[.slice A' n' c', .int .i64 0]) ∧ Rd w' A' n' c' (limbs (X ^ m)) ∧ n' ≤ k ∧ Below w.heap.size w w' := by
  refine (pow_any A n c _ (m : Int) w h hn (by omega)).mono ?_
  rintro e w' ⟨A', n', c', rfl, h', hb⟩
  rw [val_limbs] at h' ⊢
  obtain ⟨h1, h2⟩ := powErr_ok (N := X) (n := m) (by omega)
  rw [h2] at h'
  rw [h1]
  exact ⟨A', n', c', rfl, h', by rw [← h'.len]; exact hl, hb⟩
theorem pow_no {w : World} {A : Option Addr} {n c X m : Nat} (h : Rd w A n c (limbs X)) (hn : n ≤ 1000000) (hm : m ≤ 9223372036854775807) (hl : 4096 < (limbs (X ^ m)).length) :
    Calls Try.prog 66 #[.slice A n c, .int .i64 (m : Int)] w fun x w' => ∃ A' n' c', x = .returned (.tuple #[.slice A' n' c', .int .i64 8]) ∧ Below w.heap.size w w' := by
  refine (pow_any A n c _ (m : Int) w h hn (by omega)).mono ?_
  rintro e w' ⟨A', n', c', rfl, h', hb⟩
  rw [val_limbs]
  rw [(powErr_big hl).1]
  exact ⟨A', n', c', rfl, hb⟩

theorem BoxQ.swap {w : World} {g : Nat} {s : Bool} {A B A' B' : Option Addr} {n c m d n' c' m' d' : Nat} (h : BoxQ w g s A n c B m d) :
    BoxQ ((w.setCell ⟨g, 1, none⟩ (.slice A' n' c')).setCell ⟨g, 2, none⟩ (.slice B' m' d')) g s A' n' c' B' m' d' := by
  refine ⟨?_, by simpa [World.setCell] using h.2⟩
  simp [World.setCell, Array.getElem?_modify, h.1]
theorem only2 (w : World) (g : Nat) (a b : Value) : w.grownBy ((w.setCell ⟨g, 1, none⟩ a).setCell ⟨g, 2, none⟩ b) (some g) := only_setCell (only_setCell (only_refl w g) a) b
theorem below2 {W w : World} {g : Nat} (h : Below W.heap.size W w) (hg : W.heap.size ≤ g) (a b : Value) : Below W.heap.size W ((w.setCell ⟨g, 1, none⟩ a).setCell ⟨g, 2, none⟩ b) := (h.setCell hg a).setCell hg b
theorem pow_flag {u s' : Bool} {N D m : Nat} {q : Rat} (h : ratOf u N D = q) (hs : s' = (u && decide (m % 2 ≠ 0))) : ratOf s' (N ^ m) (D ^ m) = q ^ m := by
  rw [hs, ratOf_pow, h]
theorem qpowV_pos (q : Rat) (m : Nat) : qpowV q (m : Int) = q ^ m := by
  unfold qpowV
  rw [if_neg (by omega)]
  rfl
theorem qpowV_neg (q : Rat) {m : Nat} (h : 0 < m) : qpowV q (-(m : Int)) = q⁻¹ ^ m := by
  unfold qpowV
  rw [if_pos (by omega), Int.natAbs_neg]
  rfl
theorem ratOf_swap {q : Rat} {u : Bool} (h : qneg q = u) : ratOf u q.den q.num.natAbs = q⁻¹ := by
  rw [ratOf_inv, ← h, ratOf_self]
theorem ratOf_own {q : Rat} {u : Bool} (h : qneg q = u) : ratOf u q.num.natAbs q.den = q := by rw [← h, ratOf_self]

set_option maxHeartbeats 8000000 in
theorem qpow_pos (s : Bool) (A : Option Addr) (n c : Nat) (B : Option Addr) (m d : Nat) (q : Rat) (K : Nat) (w : World) (h : RawQ w s A n c B m d q K) (hK1 : 1 ≤ K) (hK : K ≤ 1000) (z : Nat) (hz : z ≤ 9223372036854775807) (Kp : Nat) (hKp1 : 1 ≤ Kp) (hKp : Kp ≤ 4096) (hl1 : (limbs (q.num.natAbs ^ z)).length ≤ Kp) (hl2 : (limbs (q.den ^ z)).length ≤ Kp) :
    Calls Try.prog 33 #[.agg #[.bool s, .slice A n c, .slice B m d], .int .i64 (z : Int)] w (RetQE (qpowV q (z : Int)) Kp w) := by
  have HR := hide (qpowV_pos q z)
  obtain ⟨u, hu⟩ : ∃ u, qneg q = u := ⟨_, rfl⟩
  have HE := hide (ratOf_own hu)
  have HU := hide hu
  clear hu
  obtain ⟨W0, hW0, hS, q1, q3⟩ := box2 w s A n c B m d
  have hr := h.below hS
  have HW := hide hW0
  clear hW0 h
  go_enter Try.func33, Try.ntmps33
  go_wp2_with fail
  rw [← HW.out]
  refine (trim_q _ _ _ _ _ _ _ _ K _ hr hK1 (by omega)).mono ?_
  rintro e w1 ⟨A', n', c', B', m', d', rfl, hcan, hb1⟩
  have q11 := q1.below hb1
  have hcg := q11.cells
  have hfg := q11.free
  have ho := only3 w1 w.heap.size (.bool (qneg q)) (.slice A' n' c') (.slice B' m' d')
  have hcans := hcan.far ho q11.noNum
  have q1s := q11.store3 (qneg q) A' n' c' B' m' d'
  have q3s := BoxQ.only (g' := w.heap.size) (q3.below hb1) ho (by omega)
  have hBs := below3 (below_step hb1 hS) (Nat.le_refl _) (.bool (qneg q)) (.slice A' n' c') (.slice B' m' d')
  obtain ⟨W, hW⟩ : ∃ W, W = ((w1.setCell ⟨w.heap.size, 0, none⟩ (.bool (qneg q))).setCell ⟨w.heap.size, 1, none⟩ (.slice A' n' c')).setCell ⟨w.heap.size, 2, none⟩ (.slice B' m' d') := ⟨_, rfl⟩
  have HW1 := hide hW.symm
  rw [← hW] at hcans q1s q3s hBs
  have e1 := hcans.num
  have e2 := hcans.den
  have hcl := hcans.hn
  have hcm := hcans.hm
  have Q1 := hide q1s
  have Q3 := hide q3s
  have hz3 := q3s.2
  clear hW ho hcan q11 hr hb1 q1 hS q1s q3 q3s
  rw [HU.out] at Q1 HW1
  cases u <;> (have hc0 := Q1.out.cells; rw [HU.out]; go_wp2_with fail; rw [HW1.out]; clear hc0)
  all_goals
    refine (pow_yes (k := Kp) e1 (by omega) hz hl1 hKp).mono ?_
    rintro e w3 ⟨A3, n3, c3, rfl, h3, k3, hb3⟩
    have hc1 := (Q1.out.below hb3).cells
    go_wp2_with fail
    refine (pow_yes (k := Kp) (e2.below hb3) (by omega) hz hl2 hKp).mono ?_
    rintro e w4 ⟨A4, n4, c4, rfl, h4, k4, hb4⟩
    clear hc1
    have hc1 := ((Q1.out.below hb3).below hb4).cells
    go_wp2_with fail
    refine (canonical_eq (K := Kp) (r := q ^ z) (h3.below hb4) h4 (by rw [val_limbs, val_limbs]; exact pow_flag HE.out (by first | rfl | (rw [Bool.eq_iff_iff]; simp; done) | (rw [Bool.eq_iff_iff]; simp; omega) | (cases u <;> simp <;> omega))) k3 k4 hKp1 (by omega)).mono ?_
    rintro e w5 ⟨A5, n5, c5, B5, m5, d5, rfl, hcan5, hb5⟩
    have q35 := ((Q3.out.below hb3).below hb4).below hb5
    have hBB := below_step hb5 (below_step hb4 (below_step hb3 hBs))
    clear hc1
    have hcg := q35.cells
    have hfg := q35.free
    go_wp2
    exact bodyPost_ret (v := .tuple #[.agg #[.bool (qneg (q ^ z)), .slice A5 n5 c5, .slice B5 m5 d5], .int .i64 0]) (by simp [results, Try.results33, go_sem, hcg]) rfl ⟨A5, n5, c5, B5, m5, d5, by rw [HR.out], by rw [HR.out]; exact hcan5.store3 q35.noNum, below3 hBB (by omega) _ _ _⟩

set_option maxHeartbeats 8000000 in
theorem qpow_pos_big1 (s : Bool) (A : Option Addr) (n c : Nat) (B : Option Addr) (m d : Nat) (q : Rat) (K : Nat) (w : World) (h : RawQ w s A n c B m d q K) (hK1 : 1 ≤ K) (hK : K ≤ 1000) (z : Nat) (hz : z ≤ 9223372036854775807) (hl1 : 4096 < (limbs (q.num.natAbs ^ z)).length) :
    Calls Try.prog 33 #[.agg #[.bool s, .slice A n c, .slice B m d], .int .i64 (z : Int)] w (ErrQ 8 w) := by
  obtain ⟨W0, hW0, hS, q1, q3⟩ := box2 w s A n c B m d
  have hr := h.below hS
  have HW := hide hW0
  clear hW0 h
  go_enter Try.func33, Try.ntmps33
  go_wp2_with fail
  rw [← HW.out]
  refine (trim_q _ _ _ _ _ _ _ _ K _ hr hK1 (by omega)).mono ?_
  rintro e w1 ⟨A', n', c', B', m', d', rfl, hcan, hb1⟩
  have q11 := q1.below hb1
  have hcg := q11.cells
  have hfg := q11.free
  have ho := only3 w1 w.heap.size (.bool (qneg q)) (.slice A' n' c') (.slice B' m' d')
  have hcans := hcan.far ho q11.noNum
  have q1s := q11.store3 (qneg q) A' n' c' B' m' d'
  have q3s := BoxQ.only (g' := w.heap.size) (q3.below hb1) ho (by omega)
  have hBs := below3 (below_step hb1 hS) (Nat.le_refl _) (.bool (qneg q)) (.slice A' n' c') (.slice B' m' d')
  obtain ⟨W, hW⟩ : ∃ W, W = ((w1.setCell ⟨w.heap.size, 0, none⟩ (.bool (qneg q))).setCell ⟨w.heap.size, 1, none⟩ (.slice A' n' c')).setCell ⟨w.heap.size, 2, none⟩ (.slice B' m' d') := ⟨_, rfl⟩
  have HW1 := hide hW.symm
  rw [← hW] at hcans q1s q3s hBs
  have e1 := hcans.num
  have e2 := hcans.den
  have hcl := hcans.hn
  have hcm := hcans.hm
  have Q1 := hide q1s
  have Q3 := hide q3s
  have hz3 := q3s.2
  clear hW ho hcan q11 hr hb1 q1 hS q1s q3 q3s
  have hc0 := Q1.out.cells
  go_wp2_with fail
  rw [HW1.out]
  clear hc0
  refine (pow_no e1 (by omega) hz hl1).mono ?_
  rintro e w3 ⟨A3, n3, c3, rfl, hb3⟩
  have q3e := (Q3.out.below hb3)
  have hcg := q3e.cells
  have hfg := q3e.free
  go_wp2
  exact bodyPost_ret (v := .tuple #[.agg #[.bool false, .slice none 0 0, .slice none 0 0], .int .i64 8]) (by simp [results, Try.results33, go_sem, hcg]) rfl ⟨rfl, by first | exact (below_step hb3 hBs) | exact below3 (below_step hb3 hBs) (by omega) _ _ _⟩

set_option maxHeartbeats 8000000 in
theorem qpow_pos_big2 (s : Bool) (A : Option Addr) (n c : Nat) (B : Option Addr) (m d : Nat) (q : Rat) (K : Nat) (w : World) (h : RawQ w s A n c B m d q K) (hK1 : 1 ≤ K) (hK : K ≤ 1000) (z : Nat) (hz : z ≤ 9223372036854775807) (hl1 : (limbs (q.num.natAbs ^ z)).length ≤ 4096) (hl2 : 4096 < (limbs (q.den ^ z)).length) :
    Calls Try.prog 33 #[.agg #[.bool s, .slice A n c, .slice B m d], .int .i64 (z : Int)] w (ErrQ 8 w) := by
  obtain ⟨W0, hW0, hS, q1, q3⟩ := box2 w s A n c B m d
  have hr := h.below hS
  have HW := hide hW0
  clear hW0 h
  go_enter Try.func33, Try.ntmps33
  go_wp2_with fail
  rw [← HW.out]
  refine (trim_q _ _ _ _ _ _ _ _ K _ hr hK1 (by omega)).mono ?_
  rintro e w1 ⟨A', n', c', B', m', d', rfl, hcan, hb1⟩
  have q11 := q1.below hb1
  have hcg := q11.cells
  have hfg := q11.free
  have ho := only3 w1 w.heap.size (.bool (qneg q)) (.slice A' n' c') (.slice B' m' d')
  have hcans := hcan.far ho q11.noNum
  have q1s := q11.store3 (qneg q) A' n' c' B' m' d'
  have q3s := BoxQ.only (g' := w.heap.size) (q3.below hb1) ho (by omega)
  have hBs := below3 (below_step hb1 hS) (Nat.le_refl _) (.bool (qneg q)) (.slice A' n' c') (.slice B' m' d')
  obtain ⟨W, hW⟩ : ∃ W, W = ((w1.setCell ⟨w.heap.size, 0, none⟩ (.bool (qneg q))).setCell ⟨w.heap.size, 1, none⟩ (.slice A' n' c')).setCell ⟨w.heap.size, 2, none⟩ (.slice B' m' d') := ⟨_, rfl⟩
  have HW1 := hide hW.symm
  rw [← hW] at hcans q1s q3s hBs
  have e1 := hcans.num
  have e2 := hcans.den
  have hcl := hcans.hn
  have hcm := hcans.hm
  have Q1 := hide q1s
  have Q3 := hide q3s
  have hz3 := q3s.2
  clear hW ho hcan q11 hr hb1 q1 hS q1s q3 q3s
  have hc0 := Q1.out.cells
  go_wp2_with fail
  rw [HW1.out]
  clear hc0
  refine (pow_yes (k := 4096) e1 (by omega) hz hl1 (Nat.le_refl _)).mono ?_
  rintro e w3 ⟨A3, n3, c3, rfl, h3, k3, hb3⟩
  have hc1 := (Q1.out.below hb3).cells
  go_wp2_with fail
  refine (pow_no (e2.below hb3) (by omega) hz hl2).mono ?_
  rintro e w4 ⟨A4, n4, c4, rfl, hb4⟩
  clear hc1
  have q3e := ((Q3.out.below hb3).below hb4)
  have hcg := q3e.cells
  have hfg := q3e.free
  go_wp2
  exact bodyPost_ret (v := .tuple #[.agg #[.bool false, .slice none 0 0, .slice none 0 0], .int .i64 8]) (by simp [results, Try.results33, go_sem, hcg]) rfl ⟨rfl, by first | exact (below_step hb4 (below_step hb3 hBs)) | exact below3 (below_step hb4 (below_step hb3 hBs)) (by omega) _ _ _⟩

set_option maxHeartbeats 8000000 in
theorem qpow_neg (s : Bool) (A : Option Addr) (n c : Nat) (B : Option Addr) (m d : Nat) (q : Rat) (K : Nat) (w : World) (h : RawQ w s A n c B m d q K) (hK1 : 1 ≤ K) (hK : K ≤ 1000) (z : Nat) (hz1 : 1 ≤ z) (hz : z ≤ 9223372036854775807) (h0 : q ≠ 0) (Kp : Nat) (hKp1 : 1 ≤ Kp) (hKp : Kp ≤ 4096) (hl1 : (limbs (q.num.natAbs ^ z)).length ≤ Kp) (hl2 : (limbs (q.den ^ z)).length ≤ Kp) :
    Calls Try.prog 33 #[.agg #[.bool s, .slice A n c, .slice B m d], .int .i64 (-(z : Int))] w (RetQE (qpowV q (-(z : Int))) Kp w) := by
  have HR := hide (qpowV_neg q (m := z) (by omega))
  obtain ⟨u, hu⟩ : ∃ u, qneg q = u := ⟨_, rfl⟩
  have HE := hide (ratOf_swap hu)
  have HU := hide hu
  clear hu
  have hx1 : (-(z : Int) == -9223372036854775808) = false := by simp; omega
  have hx2 : (-(z : Int)) < 0 := by omega
  have hx3 : -9223372036854775807 ≤ (-(z : Int)) := by omega
  obtain ⟨W0, hW0, hS, q1, q3⟩ := box2 w s A n c B m d
  have hr := h.below hS
  have HW := hide hW0
  clear hW0 h
  go_enter Try.func33, Try.ntmps33
  go_wp2_with fail
  rw [← HW.out]
  refine (trim_q _ _ _ _ _ _ _ _ K _ hr hK1 (by omega)).mono ?_
  rintro e w1 ⟨A', n', c', B', m', d', rfl, hcan, hb1⟩
  have q11 := q1.below hb1
  have hcg := q11.cells
  have hfg := q11.free
  have ho := only3 w1 w.heap.size (.bool (qneg q)) (.slice A' n' c') (.slice B' m' d')
  have hcans := hcan.far ho q11.noNum
  have q1s := q11.store3 (qneg q) A' n' c' B' m' d'
  have q3s := BoxQ.only (g' := w.heap.size) (q3.below hb1) ho (by omega)
  have hBs := below3 (below_step hb1 hS) (Nat.le_refl _) (.bool (qneg q)) (.slice A' n' c') (.slice B' m' d')
  obtain ⟨W, hW⟩ : ∃ W, W = ((w1.setCell ⟨w.heap.size, 0, none⟩ (.bool (qneg q))).setCell ⟨w.heap.size, 1, none⟩ (.slice A' n' c')).setCell ⟨w.heap.size, 2, none⟩ (.slice B' m' d') := ⟨_, rfl⟩
  have HW1 := hide hW.symm
  rw [← hW] at hcans q1s q3s hBs
  have e1 := hcans.num
  have e2 := hcans.den
  have hcl := hcans.hn
  have hcm := hcans.hm
  have Q1 := hide q1s
  have Q3 := hide q3s
  have hz3 := q3s.2
  clear hW ho hcan q11 hr hb1 q1 hS q1s q3 q3s
  rw [HU.out] at Q1 HW1
  have HCR := hide hcans
  have hcall := sign_q _ _ _ _ _ _ _ _ K _ hcans.raw (by omega)
  obtain ⟨y, hy⟩ : ∃ y, y = qsign q := ⟨_, rfl⟩
  have hy0 : (y == 0) = false := by
    have := mt qsign_zero.1 h0
    rw [← hy] at this
    simpa using this
  rw [← hy] at hcall
  clear hy h0
  have hc0 := Q1.out.cells
  rw [HU.out] at hcall ⊢
  go_wp2_with fail
  rw [HW1.out]
  refine hcall.mono ?_
  rintro e w2 ⟨rfl, hb2⟩
  clear hcall hc0 hcg hfg
  have q12 := Q1.out.below hb2
  have hcg := q12.cells
  have hfg := q12.free
  have ho := only2 w2 w.heap.size (.slice B' m' d') (.slice A' n' c')
  have hcanv := (hcans.below hb2).far ho q12.noNum
  have Q1v := hide (q12.swap (A' := B') (n' := m') (c' := d') (B' := A') (m' := n') (d' := c'))
  have Q3v := hide (BoxQ.only (g' := w.heap.size) (Q3.out.below hb2) ho (by omega))
  have hBv := below2 (below_step hb2 hBs) (Nat.le_refl _) (.slice B' m' d') (.slice A' n' c')
  go_wp2_with fail
  obtain ⟨V, hV⟩ : ∃ V, V = (w2.setCell ⟨w.heap.size, 1, none⟩ (.slice B' m' d')).setCell ⟨w.heap.size, 2, none⟩ (.slice A' n' c') := ⟨_, rfl⟩
  rw [← hV] at hcanv Q1v Q3v hBv ⊢
  clear hV hcg hfg ho q12 hb2
  have v1 := hcanv.den
  have v2 := hcanv.num
  cases u
  all_goals
    refine (pow_yes (k := Kp) v1 (by omega) hz hl2 hKp).mono ?_
    rintro e w3 ⟨A3, n3, c3, rfl, h3, k3, hb3⟩
    have hc1 := (Q1v.out.below hb3).cells
    go_wp2_with fail
    refine (pow_yes (k := Kp) (v2.below hb3) (by omega) hz hl1 hKp).mono ?_
    rintro e w4 ⟨A4, n4, c4, rfl, h4, k4, hb4⟩
    clear hc1
    have hc1 := ((Q1v.out.below hb3).below hb4).cells
    go_wp2_with fail
    refine (canonical_eq (K := Kp) (r := q⁻¹ ^ z) (h3.below hb4) h4 (by rw [val_limbs, val_limbs]; exact pow_flag HE.out (by first | rfl | (rw [Bool.eq_iff_iff]; simp; done) | (rw [Bool.eq_iff_iff]; simp; omega) | (cases u <;> simp <;> omega))) k3 k4 hKp1 (by omega)).mono ?_
    rintro e w5 ⟨A5, n5, c5, B5, m5, d5, rfl, hcan5, hb5⟩
    have q35 := ((Q3v.out.below hb3).below hb4).below hb5
    have hBB := below_step hb5 (below_step hb4 (below_step hb3 hBv))
    clear hc1
    have hcg := q35.cells
    have hfg := q35.free
    go_wp2
    exact bodyPost_ret (v := .tuple #[.agg #[.bool (qneg (q⁻¹ ^ z)), .slice A5 n5 c5, .slice B5 m5 d5], .int .i64 0]) (by simp [results, Try.results33, go_sem, hcg]) rfl ⟨A5, n5, c5, B5, m5, d5, by rw [HR.out], by rw [HR.out]; exact hcan5.store3 q35.noNum, below3 hBB (by omega) _ _ _⟩
end Go.Proofs.Ytlomanhmpbapeaa
