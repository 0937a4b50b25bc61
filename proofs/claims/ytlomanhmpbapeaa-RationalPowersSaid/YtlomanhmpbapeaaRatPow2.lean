/- The walk of rational.Pow: the errors, and the least int. -/
import Derived.Test.YtlomanhmpbapeaaRatPow
namespace Go.Proofs.Ytlomanhmpbapeaa
open Go.RowKit


set_option maxHeartbeats 8000000 in
theorem qpow_neg_big1 (s : Bool) (A : Option Addr) (n c : Nat) (B : Option Addr) (m d : Nat) (q : Rat) (K : Nat) (w : World) (h : RawQ w s A n c B m d q K) (hK1 : 1 ≤ K) (hK : K ≤ 1000) (z : Nat) (hz1 : 1 ≤ z) (hz : z ≤ 9223372036854775807) (h0 : q ≠ 0) (hl1 : 4096 < (limbs (q.den ^ z)).length) :
    Calls Try.prog 33 #[.agg #[.bool s, .slice A n c, .slice B m d], .int .i64 (-(z : Int))] w (ErrQ 8 w) := by
  have hx1 : (-(z : Int) == -9223372036854775808) = false := by simp; omega
  have hx2 : (-(z : Int)) < 0 := by omega
  have hx3 : -9223372036854775807 ≤ (-(z : Int)) := by omega
  obtain ⟨W0, hW0, hS, q1, q3⟩ := box2 w s A n c B m d
  have hr := h.below hS
  have HW := hide hW0
  clear hW0 h
  go_enter Try.func33, Try.ntmps33
  go_wp2_with fail
  rw [← HW.out]
  refine (trim_q _ _ _ _ _ _ _ _ K _ hr hK1 (by omega)).mono ?_
  rintro e w1 ⟨A', n', c', B', m', d', rfl, hcan, hb1⟩
  have q11 := q1.below hb1
  have hcg := q11.cells
  have hfg := q11.free
  have ho := only3 w1 w.heap.size (.bool (qneg q)) (.slice A' n' c') (.slice B' m' d')
  have hcans := hcan.far ho q11.noNum
  have q1s := q11.store3 (qneg q) A' n' c' B' m' d'
  have q3s := BoxQ.only (g' := w.heap.size) (q3.below hb1) ho (by omega)
  have hBs := below3 (below_step hb1 hS) (Nat.le_refl _) (.bool (qneg q)) (.slice A' n' c') (.slice B' m' d')
  obtain ⟨W, hW⟩ : ∃ W, W = ((w1.setCell ⟨w.heap.size, 0, none⟩ (.bool (qneg q))).setCell ⟨w.heap.size, 1, none⟩ (.slice A' n' c')).setCell ⟨w.heap.size, 2, none⟩ (.slice B' m' d') := ⟨_, rfl⟩
  have HW1 := hide hW.symm
  rw [← hW] at hcans q1s q3s hBs
  have e1 := hcans.num
  have e2 := hcans.den
  have hcl := hcans.hn
  have hcm := hcans.hm
  have Q1 := hide q1s
  have Q3 := hide q3s
  have hz3 := q3s.2
  clear hW ho hcan q11 hr hb1 q1 hS q1s q3 q3s
  have hcall := sign_q _ _ _ _ _ _ _ _ K _ hcans.raw (by omega)
  obtain ⟨y, hy⟩ : ∃ y, y = qsign q := ⟨_, rfl⟩
  have hy0 : (y == 0) = false := by
    have := mt qsign_zero.1 h0
    rw [← hy] at this
    simpa using this
  rw [← hy] at hcall
  clear hy h0
  have hc0 := Q1.out.cells
  go_wp2_with fail
  rw [HW1.out]
  refine hcall.mono ?_
  rintro e w2 ⟨rfl, hb2⟩
  clear hcall hc0 hcg hfg
  have q12 := Q1.out.below hb2
  have hcg := q12.cells
  have hfg := q12.free
  have ho := only2 w2 w.heap.size (.slice B' m' d') (.slice A' n' c')
  have hcanv := (hcans.below hb2).far ho q12.noNum
  have Q1v := hide (q12.swap (A' := B') (n' := m') (c' := d') (B' := A') (m' := n') (d' := c'))
  have Q3v := hide (BoxQ.only (g' := w.heap.size) (Q3.out.below hb2) ho (by omega))
  have hBv := below2 (below_step hb2 hBs) (Nat.le_refl _) (.slice B' m' d') (.slice A' n' c')
  go_wp2_with fail
  obtain ⟨V, hV⟩ : ∃ V, V = (w2.setCell ⟨w.heap.size, 1, none⟩ (.slice B' m' d')).setCell ⟨w.heap.size, 2, none⟩ (.slice A' n' c') := ⟨_, rfl⟩
  rw [← hV] at hcanv Q1v Q3v hBv ⊢
  clear hV hcg hfg ho q12 hb2
  have v1 := hcanv.den
  have v2 := hcanv.num
  refine (pow_no v1 (by omega) hz hl1).mono ?_
  rintro e w3 ⟨A3, n3, c3, rfl, hb3⟩
  have q3e := (Q3v.out.below hb3)
  have hcg := q3e.cells
  have hfg := q3e.free
  go_wp2
  exact bodyPost_ret (v := .tuple #[.agg #[.bool false, .slice none 0 0, .slice none 0 0], .int .i64 8]) (by simp [results, Try.results33, go_sem, hcg]) rfl ⟨rfl, by first | exact (below_step hb3 hBv) | exact below3 (below_step hb3 hBv) (by omega) _ _ _⟩

set_option maxHeartbeats 8000000 in
theorem qpow_neg_big2 (s : Bool) (A : Option Addr) (n c : Nat) (B : Option Addr) (m d : Nat) (q : Rat) (K : Nat) (w : World) (h : RawQ w s A n c B m d q K) (hK1 : 1 ≤ K) (hK : K ≤ 1000) (z : Nat) (hz1 : 1 ≤ z) (hz : z ≤ 9223372036854775807) (h0 : q ≠ 0) (hl1 : (limbs (q.den ^ z)).length ≤ 4096) (hl2 : 4096 < (limbs (q.num.natAbs ^ z)).length) :
    Calls Try.prog 33 #[.agg #[.bool s, .slice A n c, .slice B m d], .int .i64 (-(z : Int))] w (ErrQ 8 w) := by
  have hx1 : (-(z : Int) == -9223372036854775808) = false := by simp; omega
  have hx2 : (-(z : Int)) < 0 := by omega
  have hx3 : -9223372036854775807 ≤ (-(z : Int)) := by omega
  obtain ⟨W0, hW0, hS, q1, q3⟩ := box2 w s A n c B m d
  have hr := h.below hS
  have HW := hide hW0
  clear hW0 h
  go_enter Try.func33, Try.ntmps33
  go_wp2_with fail
  rw [← HW.out]
  refine (trim_q _ _ _ _ _ _ _ _ K _ hr hK1 (by omega)).mono ?_
  rintro e w1 ⟨A', n', c', B', m', d', rfl, hcan, hb1⟩
  have q11 := q1.below hb1
  have hcg := q11.cells
  have hfg := q11.free
  have ho := only3 w1 w.heap.size (.bool (qneg q)) (.slice A' n' c') (.slice B' m' d')
  have hcans := hcan.far ho q11.noNum
  have q1s := q11.store3 (qneg q) A' n' c' B' m' d'
  have q3s := BoxQ.only (g' := w.heap.size) (q3.below hb1) ho (by omega)
  have hBs := below3 (below_step hb1 hS) (Nat.le_refl _) (.bool (qneg q)) (.slice A' n' c') (.slice B' m' d')
  obtain ⟨W, hW⟩ : ∃ W, W = ((w1.setCell ⟨w.heap.size, 0, none⟩ (.bool (qneg q))).setCell ⟨w.heap.size, 1, none⟩ (.slice A' n' c')).setCell ⟨w.heap.size, 2, none⟩ (.slice B' m' d') := ⟨_, rfl⟩
  have HW1 := hide hW.symm
  rw [← hW] at hcans q1s q3s hBs
  have e1 := hcans.num
  have e2 := hcans.den
  have hcl := hcans.hn
  have hcm := hcans.hm
  have Q1 := hide q1s
  have Q3 := hide q3s
  have hz3 := q3s.2
  clear hW ho hcan q11 hr hb1 q1 hS q1s q3 q3s
  have hcall := sign_q _ _ _ _ _ _ _ _ K _ hcans.raw (by omega)
  obtain ⟨y, hy⟩ : ∃ y, y = qsign q := ⟨_, rfl⟩
  have hy0 : (y == 0) = false := by
    have := mt qsign_zero.1 h0
    rw [← hy] at this
    simpa using this
  rw [← hy] at hcall
  clear hy h0
  have hc0 := Q1.out.cells
  go_wp2_with fail
  rw [HW1.out]
  refine hcall.mono ?_
  rintro e w2 ⟨rfl, hb2⟩
  clear hcall hc0 hcg hfg
  have q12 := Q1.out.below hb2
  have hcg := q12.cells
  have hfg := q12.free
  have ho := only2 w2 w.heap.size (.slice B' m' d') (.slice A' n' c')
  have hcanv := (hcans.below hb2).far ho q12.noNum
  have Q1v := hide (q12.swap (A' := B') (n' := m') (c' := d') (B' := A') (m' := n') (d' := c'))
  have Q3v := hide (BoxQ.only (g' := w.heap.size) (Q3.out.below hb2) ho (by omega))
  have hBv := below2 (below_step hb2 hBs) (Nat.le_refl _) (.slice B' m' d') (.slice A' n' c')
  go_wp2_with fail
  obtain ⟨V, hV⟩ : ∃ V, V = (w2.setCell ⟨w.heap.size, 1, none⟩ (.slice B' m' d')).setCell ⟨w.heap.size, 2, none⟩ (.slice A' n' c') := ⟨_, rfl⟩
  rw [← hV] at hcanv Q1v Q3v hBv ⊢
  clear hV hcg hfg ho q12 hb2
  have v1 := hcanv.den
  have v2 := hcanv.num
  refine (pow_yes (k := 4096) v1 (by omega) hz hl1 (Nat.le_refl _)).mono ?_
  rintro e w3 ⟨A3, n3, c3, rfl, h3, k3, hb3⟩
  have hc1 := (Q1v.out.below hb3).cells
  go_wp2_with fail
  refine (pow_no (v2.below hb3) (by omega) hz hl2).mono ?_
  rintro e w4 ⟨A4, n4, c4, rfl, hb4⟩
  clear hc1
  have q3e := ((Q3v.out.below hb3).below hb4)
  have hcg := q3e.cells
  have hfg := q3e.free
  go_wp2
  exact bodyPost_ret (v := .tuple #[.agg #[.bool false, .slice none 0 0, .slice none 0 0], .int .i64 8]) (by simp [results, Try.results33, go_sem, hcg]) rfl ⟨rfl, by first | exact (below_step hb4 (below_step hb3 hBv)) | exact below3 (below_step hb4 (below_step hb3 hBv)) (by omega) _ _ _⟩

set_option maxHeartbeats 8000000 in
theorem qpow_zero (s : Bool) (A : Option Addr) (n c : Nat) (B : Option Addr) (m d : Nat) (q : Rat) (K : Nat) (w : World) (h : RawQ w s A n c B m d q K) (hK1 : 1 ≤ K) (hK : K ≤ 1000) (z : Int) (hz1 : z < 0) (h0 : q = 0) :
    Calls Try.prog 33 #[.agg #[.bool s, .slice A n c, .slice B m d], .int .i64 z] w (ErrQ 7 w) := by
  have H0 := hide h0
  clear h0
  obtain ⟨W0, hW0, hS, q1, q3⟩ := box2 w s A n c B m d
  have hr := h.below hS
  have HW := hide hW0
  clear hW0 h
  go_enter Try.func33, Try.ntmps33
  go_wp2_with fail
  rw [← HW.out]
  refine (trim_q _ _ _ _ _ _ _ _ K _ hr hK1 (by omega)).mono ?_
  rintro e w1 ⟨A', n', c', B', m', d', rfl, hcan, hb1⟩
  have q11 := q1.below hb1
  have hcg := q11.cells
  have hfg := q11.free
  have ho := only3 w1 w.heap.size (.bool (qneg q)) (.slice A' n' c') (.slice B' m' d')
  have hcans := hcan.far ho q11.noNum
  have q1s := q11.store3 (qneg q) A' n' c' B' m' d'
  have q3s := BoxQ.only (g' := w.heap.size) (q3.below hb1) ho (by omega)
  have hBs := below3 (below_step hb1 hS) (Nat.le_refl _) (.bool (qneg q)) (.slice A' n' c') (.slice B' m' d')
  obtain ⟨W, hW⟩ : ∃ W, W = ((w1.setCell ⟨w.heap.size, 0, none⟩ (.bool (qneg q))).setCell ⟨w.heap.size, 1, none⟩ (.slice A' n' c')).setCell ⟨w.heap.size, 2, none⟩ (.slice B' m' d') := ⟨_, rfl⟩
  have HW1 := hide hW.symm
  rw [← hW] at hcans q1s q3s hBs
  have e1 := hcans.num
  have e2 := hcans.den
  have hcl := hcans.hn
  have hcm := hcans.hm
  have Q1 := hide q1s
  have Q3 := hide q3s
  have hz3 := q3s.2
  clear hW ho hcan q11 hr hb1 q1 hS q1s q3 q3s
  have hcall := sign_q _ _ _ _ _ _ _ _ K _ hcans.raw (by omega)
  rw [qsign_of_zero H0.out] at hcall
  have hc0 := Q1.out.cells
  go_wp2_with fail
  rw [HW1.out]
  refine hcall.mono ?_
  rintro e w2 ⟨rfl, hb2⟩
  clear hcall hc0 hcg hfg
  have q3e := (Q3.out.below hb2)
  have hcg := q3e.cells
  have hfg := q3e.free
  go_wp2
  exact bodyPost_ret (v := .tuple #[.agg #[.bool false, .slice none 0 0, .slice none 0 0], .int .i64 7]) (by simp [results, Try.results33, go_sem, hcg]) rfl ⟨rfl, by first | exact (below_step hb2 hBs) | exact below3 (below_step hb2 hBs) (by omega) _ _ _⟩

set_option maxHeartbeats 8000000 in
theorem qpow_min (s : Bool) (A : Option Addr) (n c : Nat) (B : Option Addr) (m d : Nat) (q : Rat) (K : Nat) (w : World) (h : RawQ w s A n c B m d q K) (hK1 : 1 ≤ K) (hK : K ≤ 1000) (h0 : q ≠ 0) (hN : q.num.natAbs = 1) (hD : q.den = 1) (Kp : Nat) (hKp1 : 1 ≤ Kp) (R : Rat) (hR1 : R = 1) :
    Calls Try.prog 33 #[.agg #[.bool s, .slice A n c, .slice B m d], .int .i64 (-9223372036854775808)] w (RetQE R Kp w) := by
  have HR := hide hR1
  have HN := hide hN
  have HD := hide hD
  clear hR1 hN hD
  obtain ⟨W0, hW0, hS, q1, q3⟩ := box2 w s A n c B m d
  have hr := h.below hS
  have HW := hide hW0
  clear hW0 h
  go_enter Try.func33, Try.ntmps33
  go_wp2_with fail
  rw [← HW.out]
  refine (trim_q _ _ _ _ _ _ _ _ K _ hr hK1 (by omega)).mono ?_
  rintro e w1 ⟨A', n', c', B', m', d', rfl, hcan, hb1⟩
  have q11 := q1.below hb1
  have hcg := q11.cells
  have hfg := q11.free
  have ho := only3 w1 w.heap.size (.bool (qneg q)) (.slice A' n' c') (.slice B' m' d')
  have hcans := hcan.far ho q11.noNum
  have q1s := q11.store3 (qneg q) A' n' c' B' m' d'
  have q3s := BoxQ.only (g' := w.heap.size) (q3.below hb1) ho (by omega)
  have hBs := below3 (below_step hb1 hS) (Nat.le_refl _) (.bool (qneg q)) (.slice A' n' c') (.slice B' m' d')
  obtain ⟨W, hW⟩ : ∃ W, W = ((w1.setCell ⟨w.heap.size, 0, none⟩ (.bool (qneg q))).setCell ⟨w.heap.size, 1, none⟩ (.slice A' n' c')).setCell ⟨w.heap.size, 2, none⟩ (.slice B' m' d') := ⟨_, rfl⟩
  have HW1 := hide hW.symm
  rw [← hW] at hcans q1s q3s hBs
  have e1 := hcans.num
  have e2 := hcans.den
  have hcl := hcans.hn
  have hcm := hcans.hm
  have Q1 := hide q1s
  have Q3 := hide q3s
  have hz3 := q3s.2
  clear hW ho hcan q11 hr hb1 q1 hS q1s q3 q3s
  have hcall := sign_q _ _ _ _ _ _ _ _ K _ hcans.raw (by omega)
  obtain ⟨y, hy⟩ : ∃ y, y = qsign q := ⟨_, rfl⟩
  have hy0 : (y == 0) = false := by
    have := mt qsign_zero.1 h0
    rw [← hy] at this
    simpa using this
  rw [← hy] at hcall
  clear hy h0
  have hc0 := Q1.out.cells
  go_wp2_with fail
  rw [HW1.out]
  refine hcall.mono ?_
  rintro e w2 ⟨rfl, hb2⟩
  clear hcall hc0 hcg hfg
  have q12 := Q1.out.below hb2
  have hcg := q12.cells
  have hfg := q12.free
  have ho := only2 w2 w.heap.size (.slice B' m' d') (.slice A' n' c')
  have hcanv := (hcans.below hb2).far ho q12.noNum
  have Q1v := hide (q12.swap (A' := B') (n' := m') (c' := d') (B' := A') (m' := n') (d' := c'))
  have Q3v := hide (BoxQ.only (g' := w.heap.size) (Q3.out.below hb2) ho (by omega))
  have hBv := below2 (below_step hb2 hBs) (Nat.le_refl _) (.slice B' m' d') (.slice A' n' c')
  go_wp2_with fail
  obtain ⟨V, hV⟩ : ∃ V, V = (w2.setCell ⟨w.heap.size, 1, none⟩ (.slice B' m' d')).setCell ⟨w.heap.size, 2, none⟩ (.slice A' n' c') := ⟨_, rfl⟩
  rw [← hV] at hcanv Q1v Q3v hBv ⊢
  clear hV hcg hfg ho q12 hb2
  have v1 := hcanv.den
  have v2 := hcanv.num
  have hb1 := bits_any _ _ _ _ _ v1 (by omega)
  have hb2 := bits_any _ _ _ _ _ v2 (by omega)
  rw [val_limbs, HD.out, show nbits 1 = 1 from by decide] at hb1
  rw [val_limbs, HN.out, show nbits 1 = 1 from by decide] at hb2
  refine hb1.mono ?_
  rintro e w4 ⟨rfl, rfl⟩
  have hc1 := Q1v.out.cells
  go_wp2_with fail
  refine hb2.mono ?_
  rintro e w5 ⟨rfl, rfl⟩
  clear hb1 hb2
  obtain ⟨V, hV⟩ : ∃ V : World, V = w5 := ⟨_, rfl⟩
  subst hV
  go_wp2_with fail
  refine (qone_any _).mono ?_
  rintro e w6 ⟨rfl, rfl⟩
  go_wp2_with fail
  refine (qone_any _).mono ?_
  rintro e w7 ⟨rfl, rfl⟩
  have q31 := (Q3v.out.below (below_alloc _ (.cells #[.int .u32 1] 30))).below (below_alloc _ (.cells #[.int .u32 1] 30))
  have f1 := (rd_one V V.heap.size rfl).below (below_alloc _ (.cells #[.int .u32 1] 30))
  have f2 := rd_one (V.alloc (.cells #[.int .u32 1] 30)) (V.heap.size + 1) (by simp)
  have hBB := below_step (below_alloc _ (.cells #[.int .u32 1] 30)) (below_step (below_alloc _ (.cells #[.int .u32 1] 30)) hBv)
  have hcg := q31.cells
  have hfg := q31.free
  clear hc1
  go_wp2
  exact bodyPost_ret (v := .tuple #[.agg #[.bool false, .slice (some ⟨V.heap.size, 0, none⟩) 1 1, .slice (some ⟨V.heap.size + 1, 0, none⟩) 1 1], .int .i64 0]) (by simp [results, Try.results33, go_sem, hcg]) rfl
    ⟨_, _, _, _, _, _, by rw [HR.out]; rfl, by rw [HR.out]; exact CanQ.store3 ⟨f1, f2, hKp1, hKp1⟩ q31.noNum, below3 hBB (by omega) _ _ _⟩

set_option maxHeartbeats 8000000 in
theorem qpow_min_big1 (s : Bool) (A : Option Addr) (n c : Nat) (B : Option Addr) (m d : Nat) (q : Rat) (K : Nat) (w : World) (h : RawQ w s A n c B m d q K) (hK1 : 1 ≤ K) (hK : K ≤ 1000) (h0 : q ≠ 0) (hD : 2 ≤ q.den) :
    Calls Try.prog 33 #[.agg #[.bool s, .slice A n c, .slice B m d], .int .i64 (-9223372036854775808)] w (ErrQ 8 w) := by
  have HB1 := hide (big_two (m := 9223372036854775807) (by omega) hD)
  obtain ⟨x, hx⟩ : ∃ x, x = nbits q.den := ⟨_, rfl⟩
  have hx1 : ((x : Int) == 1) = false := by
    have : x ≠ 1 := fun h => by
      have := nbits_one (hx.symm.trans h)
      omega
    simp; omega
  have HX := hide hx.symm
  clear hx hD
  obtain ⟨W0, hW0, hS, q1, q3⟩ := box2 w s A n c B m d
  have hr := h.below hS
  have HW := hide hW0
  clear hW0 h
  go_enter Try.func33, Try.ntmps33
  go_wp2_with fail
  rw [← HW.out]
  refine (trim_q _ _ _ _ _ _ _ _ K _ hr hK1 (by omega)).mono ?_
  rintro e w1 ⟨A', n', c', B', m', d', rfl, hcan, hb1⟩
  have q11 := q1.below hb1
  have hcg := q11.cells
  have hfg := q11.free
  have ho := only3 w1 w.heap.size (.bool (qneg q)) (.slice A' n' c') (.slice B' m' d')
  have hcans := hcan.far ho q11.noNum
  have q1s := q11.store3 (qneg q) A' n' c' B' m' d'
  have q3s := BoxQ.only (g' := w.heap.size) (q3.below hb1) ho (by omega)
  have hBs := below3 (below_step hb1 hS) (Nat.le_refl _) (.bool (qneg q)) (.slice A' n' c') (.slice B' m' d')
  obtain ⟨W, hW⟩ : ∃ W, W = ((w1.setCell ⟨w.heap.size, 0, none⟩ (.bool (qneg q))).setCell ⟨w.heap.size, 1, none⟩ (.slice A' n' c')).setCell ⟨w.heap.size, 2, none⟩ (.slice B' m' d') := ⟨_, rfl⟩
  have HW1 := hide hW.symm
  rw [← hW] at hcans q1s q3s hBs
  have e1 := hcans.num
  have e2 := hcans.den
  have hcl := hcans.hn
  have hcm := hcans.hm
  have Q1 := hide q1s
  have Q3 := hide q3s
  have hz3 := q3s.2
  clear hW ho hcan q11 hr hb1 q1 hS q1s q3 q3s
  have hcall := sign_q _ _ _ _ _ _ _ _ K _ hcans.raw (by omega)
  obtain ⟨y, hy⟩ : ∃ y, y = qsign q := ⟨_, rfl⟩
  have hy0 : (y == 0) = false := by
    have := mt qsign_zero.1 h0
    rw [← hy] at this
    simpa using this
  rw [← hy] at hcall
  clear hy h0
  have hc0 := Q1.out.cells
  go_wp2_with fail
  rw [HW1.out]
  refine hcall.mono ?_
  rintro e w2 ⟨rfl, hb2⟩
  clear hcall hc0 hcg hfg
  have q12 := Q1.out.below hb2
  have hcg := q12.cells
  have hfg := q12.free
  have ho := only2 w2 w.heap.size (.slice B' m' d') (.slice A' n' c')
  have hcanv := (hcans.below hb2).far ho q12.noNum
  have Q1v := hide (q12.swap (A' := B') (n' := m') (c' := d') (B' := A') (m' := n') (d' := c'))
  have Q3v := hide (BoxQ.only (g' := w.heap.size) (Q3.out.below hb2) ho (by omega))
  have hBv := below2 (below_step hb2 hBs) (Nat.le_refl _) (.slice B' m' d') (.slice A' n' c')
  go_wp2_with fail
  obtain ⟨V, hV⟩ : ∃ V, V = (w2.setCell ⟨w.heap.size, 1, none⟩ (.slice B' m' d')).setCell ⟨w.heap.size, 2, none⟩ (.slice A' n' c') := ⟨_, rfl⟩
  rw [← hV] at hcanv Q1v Q3v hBv ⊢
  clear hV hcg hfg ho q12 hb2
  have v1 := hcanv.den
  have v2 := hcanv.num
  have hb1 := bits_any _ _ _ _ _ v1 (by omega)
  rw [val_limbs, HX.out] at hb1
  refine hb1.mono ?_
  rintro e w4 ⟨rfl, rfl⟩
  clear hb1
  have hc1 := Q1v.out.cells
  go_wp2_with fail
  clear hc1
  refine (pow_no v1 (by omega) (by omega) HB1.out).mono ?_
  rintro e w3 ⟨A3, n3, c3, rfl, hb3⟩
  have q3e := (Q3v.out.below hb3)
  have hcg := q3e.cells
  have hfg := q3e.free
  go_wp2
  exact bodyPost_ret (v := .tuple #[.agg #[.bool false, .slice none 0 0, .slice none 0 0], .int .i64 8]) (by simp [results, Try.results33, go_sem, hcg]) rfl ⟨rfl, by first | exact (below_step hb3 hBv) | exact below3 (below_step hb3 hBv) (by omega) _ _ _⟩

set_option maxHeartbeats 8000000 in
theorem qpow_min_big2 (s : Bool) (A : Option Addr) (n c : Nat) (B : Option Addr) (m d : Nat) (q : Rat) (K : Nat) (w : World) (h : RawQ w s A n c B m d q K) (hK1 : 1 ≤ K) (hK : K ≤ 1000) (h0 : q ≠ 0) (hD : q.den = 1) (hN : 2 ≤ q.num.natAbs) :
    Calls Try.prog 33 #[.agg #[.bool s, .slice A n c, .slice B m d], .int .i64 (-9223372036854775808)] w (ErrQ 8 w) := by
  have HB1 := hide (big_two (m := 9223372036854775807) (by omega) hN)
  have HB0 := hide (small_one (m := 9223372036854775807) (show q.den ≤ 1 by omega))
  obtain ⟨x, hx⟩ : ∃ x, x = nbits q.num.natAbs := ⟨_, rfl⟩
  have hx1 : ((x : Int) == 1) = false := by
    have : x ≠ 1 := fun h => by
      have := nbits_one (hx.symm.trans h)
      omega
    simp; omega
  have HX := hide hx.symm
  have HD := hide hD
  clear hx hD hN
  obtain ⟨W0, hW0, hS, q1, q3⟩ := box2 w s A n c B m d
  have hr := h.below hS
  have HW := hide hW0
  clear hW0 h
  go_enter Try.func33, Try.ntmps33
  go_wp2_with fail
  rw [← HW.out]
  refine (trim_q _ _ _ _ _ _ _ _ K _ hr hK1 (by omega)).mono ?_
  rintro e w1 ⟨A', n', c', B', m', d', rfl, hcan, hb1⟩
  have q11 := q1.below hb1
  have hcg := q11.cells
  have hfg := q11.free
  have ho := only3 w1 w.heap.size (.bool (qneg q)) (.slice A' n' c') (.slice B' m' d')
  have hcans := hcan.far ho q11.noNum
  have q1s := q11.store3 (qneg q) A' n' c' B' m' d'
  have q3s := BoxQ.only (g' := w.heap.size) (q3.below hb1) ho (by omega)
  have hBs := below3 (below_step hb1 hS) (Nat.le_refl _) (.bool (qneg q)) (.slice A' n' c') (.slice B' m' d')
  obtain ⟨W, hW⟩ : ∃ W, W = ((w1.setCell ⟨w.heap.size, 0, none⟩ (.bool (qneg q))).setCell ⟨w.heap.size, 1, none⟩ (.slice A' n' c')).setCell ⟨w.heap.size, 2, none⟩ (.slice B' m' d') := ⟨_, rfl⟩
  have HW1 := hide hW.symm
  rw [← hW] at hcans q1s q3s hBs
  have e1 := hcans.num
  have e2 := hcans.den
  have hcl := hcans.hn
  have hcm := hcans.hm
  have Q1 := hide q1s
  have Q3 := hide q3s
  have hz3 := q3s.2
  clear hW ho hcan q11 hr hb1 q1 hS q1s q3 q3s
  have hcall := sign_q _ _ _ _ _ _ _ _ K _ hcans.raw (by omega)
  obtain ⟨y, hy⟩ : ∃ y, y = qsign q := ⟨_, rfl⟩
  have hy0 : (y == 0) = false := by
    have := mt qsign_zero.1 h0
    rw [← hy] at this
    simpa using this
  rw [← hy] at hcall
  clear hy h0
  have hc0 := Q1.out.cells
  go_wp2_with fail
  rw [HW1.out]
  refine hcall.mono ?_
  rintro e w2 ⟨rfl, hb2⟩
  clear hcall hc0 hcg hfg
  have q12 := Q1.out.below hb2
  have hcg := q12.cells
  have hfg := q12.free
  have ho := only2 w2 w.heap.size (.slice B' m' d') (.slice A' n' c')
  have hcanv := (hcans.below hb2).far ho q12.noNum
  have Q1v := hide (q12.swap (A' := B') (n' := m') (c' := d') (B' := A') (m' := n') (d' := c'))
  have Q3v := hide (BoxQ.only (g' := w.heap.size) (Q3.out.below hb2) ho (by omega))
  have hBv := below2 (below_step hb2 hBs) (Nat.le_refl _) (.slice B' m' d') (.slice A' n' c')
  go_wp2_with fail
  obtain ⟨V, hV⟩ : ∃ V, V = (w2.setCell ⟨w.heap.size, 1, none⟩ (.slice B' m' d')).setCell ⟨w.heap.size, 2, none⟩ (.slice A' n' c') := ⟨_, rfl⟩
  rw [← hV] at hcanv Q1v Q3v hBv ⊢
  clear hV hcg hfg ho q12 hb2
  have v1 := hcanv.den
  have v2 := hcanv.num
  have hb1 := bits_any _ _ _ _ _ v1 (by omega)
  have hb2 := bits_any _ _ _ _ _ v2 (by omega)
  rw [val_limbs, HD.out, show nbits 1 = 1 from by decide] at hb1
  rw [val_limbs, HX.out] at hb2
  refine hb1.mono ?_
  rintro e w4 ⟨rfl, rfl⟩
  have hc1 := Q1v.out.cells
  go_wp2_with fail
  refine hb2.mono ?_
  rintro e w5 ⟨rfl, rfl⟩
  clear hb1 hb2
  go_wp2_with fail
  clear hc1
  refine (pow_yes (k := 4096) v1 (by omega) (by omega) (Nat.le_trans HB0.out (by omega)) (Nat.le_refl _)).mono ?_
  rintro e w3 ⟨A3, n3, c3, rfl, h3, k3, hb3⟩
  have hc1 := (Q1v.out.below hb3).cells
  go_wp2_with fail
  refine (pow_no (v2.below hb3) (by omega) (by omega) HB1.out).mono ?_
  rintro e w4 ⟨A4, n4, c4, rfl, hb4⟩
  clear hc1
  have q3e := ((Q3v.out.below hb3).below hb4)
  have hcg := q3e.cells
  have hfg := q3e.free
  go_wp2
  exact bodyPost_ret (v := .tuple #[.agg #[.bool false, .slice none 0 0, .slice none 0 0], .int .i64 8]) (by simp [results, Try.results33, go_sem, hcg]) rfl ⟨rfl, by first | exact (below_step hb4 (below_step hb3 hBv)) | exact below3 (below_step hb4 (below_step hb3 hBv)) (by omega) _ _ _⟩
end Go.Proofs.Ytlomanhmpbapeaa
