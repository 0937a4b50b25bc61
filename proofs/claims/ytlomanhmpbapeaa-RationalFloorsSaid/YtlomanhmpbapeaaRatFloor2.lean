/- The walks of the reference's Floor and Whole. -/
import Derived.Test.YtlomanhmpbapeaaRatFloor
namespace Go.Proofs.Ytlomanhmpbapeaa
open Go.RowKit

set_option maxHeartbeats 4000000 in
theorem rfloor_any (s : Bool) (A : Option Addr) (n c : Nat) (B : Option Addr) (m d : Nat) (q : Rat) (K : Nat) (w : World) (h : RawQ w s A n c B m d q K) (hK1 : 1 ≤ K) (hK : K ≤ 900) :
    Calls Try.prog 46 #[.agg #[.bool s, .slice A n c, .slice B m d]] w (RetQ ((q.floor : Int) : Rat) (K + 1) w) := by
  obtain ⟨W0, hW0, hS, q1, q3⟩ := box2 w s A n c B m d
  have hr := h.below hS
  have HW := hide hW0
  clear hW0 h
  go_enter Try.func46, Try.ntmps46
  go_wp2_with fail
  rw [← HW.out]
  refine (rtrim_q _ _ _ _ _ _ _ _ K _ hr hK1 (by omega)).mono ?_
  rintro e w1 ⟨A', n', c', B', m', d', rfl, hcan, hb1⟩
  have q11 := q1.below hb1
  have hcg := q11.cells
  have hfg := q11.free
  go_wp2_with fail
  have ho := only3 w1 w.heap.size (.bool (qneg q)) (.slice A' n' c') (.slice B' m' d')
  have hcans := hcan.far ho q11.noNum
  have q1s := q11.store3 (qneg q) A' n' c' B' m' d'
  have hBs := below3 (below_step hb1 hS) (Nat.le_refl _) (.bool (qneg q)) (.slice A' n' c') (.slice B' m' d')
  obtain ⟨W, hW⟩ : ∃ W, W = ((w1.setCell ⟨w.heap.size, 0, none⟩ (.bool (qneg q))).setCell ⟨w.heap.size, 1, none⟩ (.slice A' n' c')).setCell ⟨w.heap.size, 2, none⟩ (.slice B' m' d') := ⟨_, rfl⟩
  rw [← hW] at hcans q1s hBs ⊢
  have q3s : BoxQ W (w.heap.size + 1) false none 0 0 none 0 0 := by rw [hW]; exact BoxQ.only (g' := w.heap.size) (q3.below hb1) ho (by omega)
  have Q3 := hide q3s
  have hz3 := q3s.2
  have Q1 := hide q1s
  have hz1 := q1s.2
  clear hW hcg hfg ho hcan q11 hr hb1 q1 hS q1s q3 q3s
  have e1 := hcans.num
  have e2 := hcans.den
  have hc1 := Q1.out.cells
  have hF := From.refl W
  have hcl := hcans.hn
  have hcm := hcans.hm
  have HQ0 := hide (ratOf_floor q)
  have hden : val (limbs q.den) ≠ 0 := by rw [val_limbs]; exact q.den_nz
  go_wp2_with fail
  refine (rdivmod_any _ _ _ _ _ _ _ _ _ e1 e2 (by omega) (by omega) hden).mono ?_
  rintro e w3 ⟨A3, n3, c3, A4, n4, c4, rfl, h3, h4, hb3⟩
  rw [val_limbs, val_limbs] at h3 h4
  have hn3 : n3 ≤ K := by
    rw [← h3.len]
    refine Nat.le_trans (length_limbs_mono (Nat.div_le_self _ _)) ?_
    rw [e1.len]; exact hcl
  have hn4 : n4 ≤ K := by
    rw [← h4.len]
    refine Nat.le_trans (length_limbs_mono (Nat.mod_le _ _)) ?_
    rw [e1.len]; exact hcl
  have hF3 : From W w3 := From.step hF hb3
  clear hden e1 e2 hcans
  have hc1 := (Q1.out.later hF3).cells
  obtain ⟨u, hu⟩ : ∃ u, u = qneg q := ⟨_, rfl⟩
  rw [← hu] at hc1 Q1
  cases u
  · have HE : Hid (ratOf false (q.num.natAbs / q.den) 1 = ((q.floor : Int) : Rat)) := by
      have := HQ0.out
      rwa [← hu, if_neg (by simp), Nat.add_zero] at this
    clear hu HQ0
    go_wp2_with fail
    refine (make_eqv (K := K + 1) (r := ((q.floor : Int) : Rat)) (k := limbs 1) (by repeat (first | (with_reducible exact rd_one _ _ rfl) | (with_reducible apply rd_one; focus (simp; done)) | with_reducible assumption | with_reducible apply Rd.drew | with_reducible apply Rd.upAlloc | ((with_reducible apply Rd.up); (with_reducible assumption)))) (by repeat (first | (with_reducible exact rd_one _ _ rfl) | (with_reducible apply rd_one; focus (simp; done)) | with_reducible assumption | with_reducible apply Rd.drew | with_reducible apply Rd.upAlloc | ((with_reducible apply Rd.up); (with_reducible assumption)))) (by simpa only [val_limbs] using HE.out) (by omega) (by omega) (by omega) (by omega)).mono ?_
    rintro e w8 ⟨A8, n8, c8, B8, m8, d8, rfl, hcan8, hb8⟩
    have hF8 : From W w8 := From.step (by repeat (first | with_reducible assumption | with_reducible apply From.drew | with_reducible apply From.alloc)) hb8
    have hno := (Q3.out.later hF8).noNum
    have hcg := (Q3.out.later hF8).cells
    have hfg := (Q3.out.later hF8).free
    clear hc1
    go_wp2
    exact bodyPost_ret (v := .agg #[.bool (qneg ((q.floor : Int) : Rat)), .slice A8 n8 c8, .slice B8 m8 d8]) (by simp [results, Try.results46, go_sem, hcg]) rfl ⟨A8, n8, c8, B8, m8, d8, rfl, (by repeat (first | with_reducible assumption | with_reducible apply CanQ.drew | ((with_reducible apply CanQ.store3); (focus assumption)))), Only.bel (g := w.heap.size + 1) (by repeat (first | with_reducible assumption | with_reducible apply Only.set | with_reducible apply Only.drew | with_reducible apply Only.alloc | ((with_reducible apply From.only); (repeat (first | with_reducible assumption | with_reducible apply From.drew | with_reducible apply From.alloc))))) hBs hBs.size (by omega)⟩
  · by_cases hr : q.num.natAbs % q.den = 0
    · have HE : Hid (ratOf true (q.num.natAbs / q.den) 1 = ((q.floor : Int) : Rat)) := by
        have := HQ0.out
        rwa [← hu, hr, if_neg (by simp), Nat.add_zero] at this
      clear hu HQ0
      rw [hr] at h4
      have hn0 : n4 = 0 := by
        have := h4.len
        rw [limbs_zero] at this
        simpa using this.symm
      subst hn0
      go_wp2_with fail
      refine (make_eqv (K := K + 1) (r := ((q.floor : Int) : Rat)) (k := limbs 1) (by repeat (first | (with_reducible exact rd_one _ _ rfl) | (with_reducible apply rd_one; focus (simp; done)) | with_reducible assumption | with_reducible apply Rd.drew | with_reducible apply Rd.upAlloc | ((with_reducible apply Rd.up); (with_reducible assumption)))) (by repeat (first | (with_reducible exact rd_one _ _ rfl) | (with_reducible apply rd_one; focus (simp; done)) | with_reducible assumption | with_reducible apply Rd.drew | with_reducible apply Rd.upAlloc | ((with_reducible apply Rd.up); (with_reducible assumption)))) (by simpa only [val_limbs] using HE.out) (by omega) (by omega) (by omega) (by omega)).mono ?_
      rintro e w8 ⟨A8, n8, c8, B8, m8, d8, rfl, hcan8, hb8⟩
      have hF8 : From W w8 := From.step (by repeat (first | with_reducible assumption | with_reducible apply From.drew | with_reducible apply From.alloc)) hb8
      have hno := (Q3.out.later hF8).noNum
      have hcg := (Q3.out.later hF8).cells
      have hfg := (Q3.out.later hF8).free
      clear hc1
      go_wp2
      exact bodyPost_ret (v := .agg #[.bool (qneg ((q.floor : Int) : Rat)), .slice A8 n8 c8, .slice B8 m8 d8]) (by simp [results, Try.results46, go_sem, hcg]) rfl ⟨A8, n8, c8, B8, m8, d8, rfl, (by repeat (first | with_reducible assumption | with_reducible apply CanQ.drew | ((with_reducible apply CanQ.store3); (focus assumption)))), Only.bel (g := w.heap.size + 1) (by repeat (first | with_reducible assumption | with_reducible apply Only.set | with_reducible apply Only.drew | with_reducible apply Only.alloc | ((with_reducible apply From.only); (repeat (first | with_reducible assumption | with_reducible apply From.drew | with_reducible apply From.alloc))))) hBs hBs.size (by omega)⟩
    · have HE : Hid (ratOf true (q.num.natAbs / q.den + 1) 1 = ((q.floor : Int) : Rat)) := by
        have := HQ0.out
        rwa [← hu, if_pos ⟨rfl, hr⟩] at this
      clear hu HQ0
      have hx1 : n4 ≠ 0 := by rw [← h4.len]; exact limbs_len_pos hr
      have hx2 : 0 < (n4 : Int) := by omega
      clear hx1 hr
      have hlt := val_lt_len h3
      go_wp2_with fail
      refine (radd_any _ _ _ _ _ _ _ _ (l2 := limbs 1) (by repeat (first | (with_reducible exact rd_one _ _ rfl) | (with_reducible apply rd_one; focus (simp; done)) | with_reducible assumption | with_reducible apply Rd.drew | with_reducible apply Rd.upAlloc | ((with_reducible apply Rd.up); (with_reducible assumption)))) (by repeat (first | (with_reducible exact rd_one _ _ rfl) | (with_reducible apply rd_one; focus (simp; done)) | with_reducible assumption | with_reducible apply Rd.drew | with_reducible apply Rd.upAlloc | ((with_reducible apply Rd.up); (with_reducible assumption)))) (by omega) (by omega)).mono ?_
      rintro e w7 ⟨A7, n7, c7, rfl, h7, hb7⟩
      simp only [val_limbs] at h7
      have hF7 : From W w7 := From.step (From.alloc hF3 _) hb7
      have hn7 : n7 ≤ K + 1 := by
        rw [← h7.len]
        refine length_limbs_le ?_
        rw [val_limbs] at hlt
        have := Nat.lt_of_lt_of_le hlt (pow_le_pow_limb hn3)
        rw [Nat.pow_succ]
        generalize q.num.natAbs / q.den = y at this ⊢
        omega
      clear hc1 hlt
      have hc1 := (Q1.out.later hF7).cells
      clear h3 hF3 hb7 h4
      go_wp2_with fail
      refine (make_eqv (K := K + 1) (r := ((q.floor : Int) : Rat)) (k := limbs 1) (by repeat (first | (with_reducible exact rd_one _ _ rfl) | (with_reducible apply rd_one; focus (simp; done)) | with_reducible assumption | with_reducible apply Rd.drew | with_reducible apply Rd.upAlloc | ((with_reducible apply Rd.up); (with_reducible assumption)))) (by repeat (first | (with_reducible exact rd_one _ _ rfl) | (with_reducible apply rd_one; focus (simp; done)) | with_reducible assumption | with_reducible apply Rd.drew | with_reducible apply Rd.upAlloc | ((with_reducible apply Rd.up); (with_reducible assumption)))) (by simpa only [val_limbs] using HE.out) (by omega) (by omega) (by omega) (by omega)).mono ?_
      rintro e w8 ⟨A8, n8, c8, B8, m8, d8, rfl, hcan8, hb8⟩
      have hF8 : From W w8 := From.step (by repeat (first | with_reducible assumption | with_reducible apply From.drew | with_reducible apply From.alloc)) hb8
      have hno := (Q3.out.later hF8).noNum
      have hcg := (Q3.out.later hF8).cells
      have hfg := (Q3.out.later hF8).free
      clear hc1
      go_wp2
      exact bodyPost_ret (v := .agg #[.bool (qneg ((q.floor : Int) : Rat)), .slice A8 n8 c8, .slice B8 m8 d8]) (by simp [results, Try.results46, go_sem, hcg]) rfl ⟨A8, n8, c8, B8, m8, d8, rfl, (by repeat (first | with_reducible assumption | with_reducible apply CanQ.drew | ((with_reducible apply CanQ.store3); (focus assumption)))), Only.bel (g := w.heap.size + 1) (by repeat (first | with_reducible assumption | with_reducible apply Only.set | with_reducible apply Only.drew | with_reducible apply Only.alloc | ((with_reducible apply From.only); (repeat (first | with_reducible assumption | with_reducible apply From.drew | with_reducible apply From.alloc))))) hBs hBs.size (by omega)⟩
end Go.Proofs.Ytlomanhmpbapeaa
