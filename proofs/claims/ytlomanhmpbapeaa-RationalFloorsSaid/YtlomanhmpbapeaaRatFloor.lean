/- The walks of Floor and Whole, on both sides. -/
import Derived.Test.YtlomanhmpbapeaaRatSub
namespace Go.Proofs.Ytlomanhmpbapeaa
open Go.RowKit

theorem qone_ret (w : World) : Calls Try.prog 64 #[] w fun e w' => ∃ A, e = .returned (.slice A 1 1) ∧ Rd w' A 1 1 (limbs 1) ∧ Below w.heap.size w w' :=
  (qone_any w).mono fun _ _ ⟨h1, h2⟩ => ⟨_, h1, h2 ▸ rd_one w w.heap.size rfl, h2 ▸ below_alloc w _⟩
def wholeQ (q : Rat) : Bool := !(qneg q) && decide (q.den = 1)
/-- Whole's two results. -/
def RetW (q : Rat) (K : Nat) (w : World) (x : Ending) (w' : World) : Prop :=
  ∃ A n c, x = .returned (.tuple #[.slice A n c, .bool (wholeQ q)]) ∧ Rd w' A n c (if wholeQ q then limbs q.num.natAbs else []) ∧ n ≤ K ∧ Below w.heap.size w w'
theorem retW_no {q : Rat} {K : Nat} {w w' : World} (h : wholeQ q = false) (hb : Below w.heap.size w w') : RetW q K w (.returned (.tuple #[.slice none 0 0, .bool false])) w' :=
  ⟨none, 0, 0, by rw [h], by rw [h]; exact Rd.nil w', Nat.zero_le _, hb⟩
theorem retW_yes {q : Rat} {K : Nat} {w w' : World} {A B : Option Addr} {n c m d : Nat} (h : wholeQ q = true) (hc : CanQ w' A n c B m d q K) (hb : Below w.heap.size w w') : RetW q K w (.returned (.tuple #[.slice A n c, .bool true])) w' :=
  ⟨A, n, c, by rw [h], by rw [h]; exact hc.num, hc.hn, hb⟩
theorem wholeQ_neg {q : Rat} (h : qneg q = true) : wholeQ q = false := by simp [wholeQ, h]
theorem wholeQ_den {q : Rat} (h : q.den ≠ 1) : wholeQ q = false := by simp [wholeQ, h]
theorem wholeQ_yes {q : Rat} (h : qneg q = false) (h' : q.den = 1) : wholeQ q = true := by simp [wholeQ, h, h']

set_option maxHeartbeats 4000000 in
theorem qwhole_any (s : Bool) (A : Option Addr) (n c : Nat) (B : Option Addr) (m d : Nat) (q : Rat) (K : Nat) (w : World) (h : RawQ w s A n c B m d q K) (hK1 : 1 ≤ K) (hK : K ≤ 900) :
    Calls Try.prog 44 #[.agg #[.bool s, .slice A n c, .slice B m d]] w (RetW q K w) := by
  obtain ⟨W0, hW0, hS, q1⟩ := box1 w s A n c B m d
  have hr := h.below hS
  have HW := hide hW0
  clear hW0 h
  go_enter Try.func44, Try.ntmps44
  go_wp2_with fail
  rw [← HW.out]
  refine (trim_q _ _ _ _ _ _ _ _ K _ hr hK1 (by omega)).mono ?_
  rintro e w1 ⟨A', n', c', B', m', d', rfl, hcan, hb1⟩
  have q11 := q1.below hb1
  have hcg := q11.cells
  have hfg := q11.free
  go_wp2_with fail
  have ho := only3 w1 w.heap.size (.bool (qneg q)) (.slice A' n' c') (.slice B' m' d')
  have hcans := hcan.far ho q11.noNum
  have q1s := q11.store3 (qneg q) A' n' c' B' m' d'
  have hBs := below3 (below_step hb1 hS) (Nat.le_refl _) (.bool (qneg q)) (.slice A' n' c') (.slice B' m' d')
  obtain ⟨W, hW⟩ : ∃ W, W = ((w1.setCell ⟨w.heap.size, 0, none⟩ (.bool (qneg q))).setCell ⟨w.heap.size, 1, none⟩ (.slice A' n' c')).setCell ⟨w.heap.size, 2, none⟩ (.slice B' m' d') := ⟨_, rfl⟩
  rw [← hW] at hcans q1s hBs ⊢
  have Q1 := hide q1s
  have hz1 := q1s.2
  clear hW hcg hfg ho hcan q11 hr hb1 q1 hS q1s
  have e1 := hcans.num
  have e2 := hcans.den
  have hc1 := Q1.out.cells
  have hF := From.refl W
  have hcl := hcans.hn
  have hcm := hcans.hm
  by_cases hs : qneg q = true
  · have HQ := hide (wholeQ_neg hs)
    rw [hs] at hc1
    clear hs
    go_quiet (fail)
    go_wp2
    go_ret2
    exact retW_no HQ.out (below_drewN hBs _)
  · have hs' : qneg q = false := by simpa using hs
    by_cases hd : q.den = 1
    · have HQ := hide (wholeQ_yes hs' hd)
      have HC : Hid (cmpV q.den 1 = 0) := by rw [Hid, hd]; rfl
      rw [hs'] at hc1
      clear hs hd
      generalize qneg q = u at *
      subst hs'
      go_wp2_with fail
      go_region_held3 (fun w' => From W w' ∧ w'.cell? ⟨w.heap.size, 0, none⟩ = some (.bool false) ∧ w'.cell? ⟨w.heap.size, 1, none⟩ = some (.slice A' n' c') ∧ w'.cell? ⟨w.heap.size, 2, none⟩ = some (.slice B' m' d'))
        ((go_split_ands; exact ⟨(by repeat (first | with_reducible assumption | with_reducible apply From.drew | with_reducible apply From.alloc)), (Q1.out.later (by repeat (first | with_reducible assumption | with_reducible apply From.drew | with_reducible apply From.alloc))).cells.1, (Q1.out.later (by repeat (first | with_reducible assumption | with_reducible apply From.drew | with_reducible apply From.alloc))).cells.2.1, (Q1.out.later (by repeat (first | with_reducible assumption | with_reducible apply From.drew | with_reducible apply From.alloc))).cells.2.2⟩))
        (first
        | (go_at_call 64; (with_reducible refine (qone_ret _).mono ?_); rintro e w' ⟨A9, rfl, h9, hb'⟩; go_split_ands; have hF' : From W w' := From.step (by repeat (first | with_reducible assumption | with_reducible apply From.drew | with_reducible apply From.alloc)) hb')
        | (go_at_call 76; (with_reducible refine (cmp_any _ _ _ _ _ _ _ _ _ (by repeat (first | with_reducible assumption | with_reducible apply Rd.drew | with_reducible apply Rd.upAlloc | ((with_reducible apply Rd.up); (with_reducible assumption)))) (by repeat (first | with_reducible assumption | with_reducible apply Rd.drew | with_reducible apply Rd.upAlloc | ((with_reducible apply Rd.up); (with_reducible assumption))))).mono ?_); rw [val_limbs, val_limbs, HC.out]; rintro e w' ⟨rfl, hb'⟩; go_split_ands; have hF' : From W w' := From.step (by repeat (first | with_reducible assumption | with_reducible apply From.drew | with_reducible apply From.alloc)) hb'))
      go_wp2
      go_ret2
      exact retW_yes HQ.out (by repeat (first | with_reducible assumption | with_reducible apply CanQ.drew | ((with_reducible apply CanQ.up); (with_reducible assumption)))) (hBs.trans ((From.out (by repeat (first | with_reducible assumption | with_reducible apply From.drew | with_reducible apply From.alloc))).mono hBs.size))
    · have HQ := hide (wholeQ_den hd)
      obtain ⟨cv, hcv⟩ : ∃ cv, cv = cmpV q.den 1 := ⟨_, rfl⟩
      have HC := hide hcv.symm
      have hcv0 : (cv == 0) = false := by
        have : cv ≠ 0 := by
          rw [hcv]
          unfold cmpV
          split
          · decide
          · split <;> omega
        simpa using this
      clear hs hd hcv
      generalize qneg q = u at *
      subst hs'
      go_wp2_with fail
      go_region_held3 (fun w' => From W w' ∧ w'.cell? ⟨w.heap.size, 0, none⟩ = some (.bool false) ∧ w'.cell? ⟨w.heap.size, 1, none⟩ = some (.slice A' n' c') ∧ w'.cell? ⟨w.heap.size, 2, none⟩ = some (.slice B' m' d'))
        ((go_split_ands; exact ⟨(by repeat (first | with_reducible assumption | with_reducible apply From.drew | with_reducible apply From.alloc)), (Q1.out.later (by repeat (first | with_reducible assumption | with_reducible apply From.drew | with_reducible apply From.alloc))).cells.1, (Q1.out.later (by repeat (first | with_reducible assumption | with_reducible apply From.drew | with_reducible apply From.alloc))).cells.2.1, (Q1.out.later (by repeat (first | with_reducible assumption | with_reducible apply From.drew | with_reducible apply From.alloc))).cells.2.2⟩))
        (first
        | (go_at_call 64; (with_reducible refine (qone_ret _).mono ?_); rintro e w' ⟨A9, rfl, h9, hb'⟩; go_split_ands; have hF' : From W w' := From.step (by repeat (first | with_reducible assumption | with_reducible apply From.drew | with_reducible apply From.alloc)) hb')
        | (go_at_call 76; (with_reducible refine (cmp_any _ _ _ _ _ _ _ _ _ (by repeat (first | with_reducible assumption | with_reducible apply Rd.drew | with_reducible apply Rd.upAlloc | ((with_reducible apply Rd.up); (with_reducible assumption)))) (by repeat (first | with_reducible assumption | with_reducible apply Rd.drew | with_reducible apply Rd.upAlloc | ((with_reducible apply Rd.up); (with_reducible assumption))))).mono ?_); rw [val_limbs, val_limbs, HC.out]; rintro e w' ⟨rfl, hb'⟩; go_split_ands; have hF' : From W w' := From.step (by repeat (first | with_reducible assumption | with_reducible apply From.drew | with_reducible apply From.alloc)) hb'))
      go_wp2
      go_ret2
      exact retW_no HQ.out (hBs.trans ((From.out (by repeat (first | with_reducible assumption | with_reducible apply From.drew | with_reducible apply From.alloc))).mono hBs.size))

set_option maxHeartbeats 4000000 in
theorem qfloor_any (s : Bool) (A : Option Addr) (n c : Nat) (B : Option Addr) (m d : Nat) (q : Rat) (K : Nat) (w : World) (h : RawQ w s A n c B m d q K) (hK1 : 1 ≤ K) (hK : K ≤ 900) :
    Calls Try.prog 43 #[.agg #[.bool s, .slice A n c, .slice B m d]] w (RetQ ((q.floor : Int) : Rat) (K + 1) w) := by
  obtain ⟨W0, hW0, hS, q1, q3⟩ := box2 w s A n c B m d
  have hr := h.below hS
  have HW := hide hW0
  clear hW0 h
  go_enter Try.func43, Try.ntmps43
  go_wp2_with fail
  rw [← HW.out]
  refine (trim_q _ _ _ _ _ _ _ _ K _ hr hK1 (by omega)).mono ?_
  rintro e w1 ⟨A', n', c', B', m', d', rfl, hcan, hb1⟩
  have q11 := q1.below hb1
  have hcg := q11.cells
  have hfg := q11.free
  go_wp2_with fail
  have ho := only3 w1 w.heap.size (.bool (qneg q)) (.slice A' n' c') (.slice B' m' d')
  have hcans := hcan.far ho q11.noNum
  have q1s := q11.store3 (qneg q) A' n' c' B' m' d'
  have hBs := below3 (below_step hb1 hS) (Nat.le_refl _) (.bool (qneg q)) (.slice A' n' c') (.slice B' m' d')
  obtain ⟨W, hW⟩ : ∃ W, W = ((w1.setCell ⟨w.heap.size, 0, none⟩ (.bool (qneg q))).setCell ⟨w.heap.size, 1, none⟩ (.slice A' n' c')).setCell ⟨w.heap.size, 2, none⟩ (.slice B' m' d') := ⟨_, rfl⟩
  rw [← hW] at hcans q1s hBs ⊢
  have q3s : BoxQ W (w.heap.size + 1) false none 0 0 none 0 0 := by rw [hW]; exact BoxQ.only (g' := w.heap.size) (q3.below hb1) ho (by omega)
  have Q3 := hide q3s
  have hz3 := q3s.2
  have Q1 := hide q1s
  have hz1 := q1s.2
  clear hW hcg hfg ho hcan q11 hr hb1 q1 hS q1s q3 q3s
  have e1 := hcans.num
  have e2 := hcans.den
  have hc1 := Q1.out.cells
  have hF := From.refl W
  have hcl := hcans.hn
  have hcm := hcans.hm
  have HQ0 := hide (ratOf_floor q)
  have hden : val (limbs q.den) ≠ 0 := by rw [val_limbs]; exact q.den_nz
  go_wp2_with fail
  refine (divmod_ok _ _ _ _ _ _ _ _ _ e1 e2 (by omega) (by omega) hden).mono ?_
  rintro e w3 ⟨A3, n3, c3, A4, n4, c4, rfl, h3, h4, hb3⟩
  rw [val_limbs, val_limbs] at h3 h4
  have hn3 : n3 ≤ K := by
    rw [← h3.len]
    refine Nat.le_trans (length_limbs_mono (Nat.div_le_self _ _)) ?_
    rw [e1.len]; exact hcl
  have hn4 : n4 ≤ K := by
    rw [← h4.len]
    refine Nat.le_trans (length_limbs_mono (Nat.mod_le _ _)) ?_
    rw [e1.len]; exact hcl
  have hF3 : From W w3 := From.step hF hb3
  clear hden e1 e2 hcans
  have hc1 := (Q1.out.later hF3).cells
  obtain ⟨u, hu⟩ : ∃ u, u = qneg q := ⟨_, rfl⟩
  rw [← hu] at hc1 Q1
  cases u
  · have HE : Hid (ratOf false (q.num.natAbs / q.den) 1 = ((q.floor : Int) : Rat)) := by
      have := HQ0.out
      rwa [← hu, if_neg (by simp), Nat.add_zero] at this
    clear hu HQ0
    go_wp2_with fail
    go_region_held3 (fun w' => Only (w.heap.size + 1) W w' ∧ w'.cell? ⟨w.heap.size, 0, none⟩ = some (.bool false))
      ((go_split_ands; exact ⟨(by repeat (first | with_reducible assumption | with_reducible apply Only.set | with_reducible apply Only.drew | with_reducible apply Only.alloc | ((with_reducible apply From.only); (repeat (first | with_reducible assumption | with_reducible apply From.drew | with_reducible apply From.alloc))))), (BoxQ.only (g' := w.heap.size + 1) Q1.out (by repeat (first | with_reducible assumption | with_reducible apply Only.set | with_reducible apply Only.drew | with_reducible apply Only.alloc | ((with_reducible apply From.only); (repeat (first | with_reducible assumption | with_reducible apply From.drew | with_reducible apply From.alloc))))) (by omega)).cells.1⟩))
      (first
      | (go_at_call 64; (with_reducible refine (qone_ret _).mono ?_); rintro e w' ⟨A9, rfl, h9, hb'⟩; go_split_ands; have hF' : From W w' := From.step (by repeat (first | with_reducible assumption | with_reducible apply From.drew | with_reducible apply From.alloc)) hb')
      | (go_at_call 57; (with_reducible refine (canonical_eq (K := K + 1) (r := ((q.floor : Int) : Rat)) (by repeat (first | with_reducible assumption | with_reducible apply Rd.drew | with_reducible apply Rd.upAlloc | ((with_reducible apply Rd.up); (with_reducible assumption)))) (by repeat (first | with_reducible assumption | with_reducible apply Rd.drew | with_reducible apply Rd.upAlloc | ((with_reducible apply Rd.up); (with_reducible assumption)))) (by simpa only [val_limbs] using HE.out) (by omega) (by omega) (by omega) (by omega)).mono ?_); rintro e w' ⟨A8, n8, c8, B8, m8, d8, rfl, hcan8, hb'⟩; go_split_ands; have hF' : From W w' := From.step (by repeat (first | with_reducible assumption | with_reducible apply From.drew | with_reducible apply From.alloc)) hb'; have hno := (Q3.out.later hF').noNum; have hcg := (Q3.out.later hF').cells; have hfg := (Q3.out.later hF').free))
    go_wp2
    exact bodyPost_ret (v := .agg #[.bool (qneg ((q.floor : Int) : Rat)), .slice A8 n8 c8, .slice B8 m8 d8]) (by simp [results, Try.results43, go_sem, hcg]) rfl ⟨A8, n8, c8, B8, m8, d8, rfl, (by repeat (first | with_reducible assumption | with_reducible apply CanQ.drew | ((with_reducible apply CanQ.store3); (focus assumption)))), Only.bel (g := w.heap.size + 1) (by repeat (first | with_reducible assumption | with_reducible apply Only.set | with_reducible apply Only.drew | with_reducible apply Only.alloc | ((with_reducible apply From.only); (repeat (first | with_reducible assumption | with_reducible apply From.drew | with_reducible apply From.alloc))))) hBs hBs.size (by omega)⟩
  · by_cases hr : q.num.natAbs % q.den = 0
    · have HE : Hid (ratOf true (q.num.natAbs / q.den) 1 = ((q.floor : Int) : Rat)) := by
        have := HQ0.out
        rwa [← hu, hr, if_neg (by simp), Nat.add_zero] at this
      clear hu HQ0
      rw [hr] at h4
      have hbc := bits_any _ _ _ _ _ h4 (by omega)
      rw [val_limbs, nbits_zero] at hbc
      go_wp2_with fail
      refine hbc.mono ?_
      rintro e w5 ⟨rfl, rfl⟩
      clear hbc
      go_wp2_with fail
      go_region_held3 (fun w' => Only (w.heap.size + 1) W w' ∧ w'.cell? ⟨w.heap.size, 0, none⟩ = some (.bool true))
        ((go_split_ands; exact ⟨(by repeat (first | with_reducible assumption | with_reducible apply Only.set | with_reducible apply Only.drew | with_reducible apply Only.alloc | ((with_reducible apply From.only); (repeat (first | with_reducible assumption | with_reducible apply From.drew | with_reducible apply From.alloc))))), (BoxQ.only (g' := w.heap.size + 1) Q1.out (by repeat (first | with_reducible assumption | with_reducible apply Only.set | with_reducible apply Only.drew | with_reducible apply Only.alloc | ((with_reducible apply From.only); (repeat (first | with_reducible assumption | with_reducible apply From.drew | with_reducible apply From.alloc))))) (by omega)).cells.1⟩))
        (first
        | (go_at_call 64; (with_reducible refine (qone_ret _).mono ?_); rintro e w' ⟨A9, rfl, h9, hb'⟩; go_split_ands; have hF' : From W w' := From.step (by repeat (first | with_reducible assumption | with_reducible apply From.drew | with_reducible apply From.alloc)) hb')
        | (go_at_call 57; (with_reducible refine (canonical_eq (K := K + 1) (r := ((q.floor : Int) : Rat)) (by repeat (first | with_reducible assumption | with_reducible apply Rd.drew | with_reducible apply Rd.upAlloc | ((with_reducible apply Rd.up); (with_reducible assumption)))) (by repeat (first | with_reducible assumption | with_reducible apply Rd.drew | with_reducible apply Rd.upAlloc | ((with_reducible apply Rd.up); (with_reducible assumption)))) (by simpa only [val_limbs] using HE.out) (by omega) (by omega) (by omega) (by omega)).mono ?_); rintro e w' ⟨A8, n8, c8, B8, m8, d8, rfl, hcan8, hb'⟩; go_split_ands; have hF' : From W w' := From.step (by repeat (first | with_reducible assumption | with_reducible apply From.drew | with_reducible apply From.alloc)) hb'; have hno := (Q3.out.later hF').noNum; have hcg := (Q3.out.later hF').cells; have hfg := (Q3.out.later hF').free))
      go_wp2
      exact bodyPost_ret (v := .agg #[.bool (qneg ((q.floor : Int) : Rat)), .slice A8 n8 c8, .slice B8 m8 d8]) (by simp [results, Try.results43, go_sem, hcg]) rfl ⟨A8, n8, c8, B8, m8, d8, rfl, (by repeat (first | with_reducible assumption | with_reducible apply CanQ.drew | ((with_reducible apply CanQ.store3); (focus assumption)))), Only.bel (g := w.heap.size + 1) (by repeat (first | with_reducible assumption | with_reducible apply Only.set | with_reducible apply Only.drew | with_reducible apply Only.alloc | ((with_reducible apply From.only); (repeat (first | with_reducible assumption | with_reducible apply From.drew | with_reducible apply From.alloc))))) hBs hBs.size (by omega)⟩
    · have HE : Hid (ratOf true (q.num.natAbs / q.den + 1) 1 = ((q.floor : Int) : Rat)) := by
        have := HQ0.out
        rwa [← hu, if_pos ⟨rfl, hr⟩] at this
      clear hu HQ0
      have hbc := bits_any _ _ _ _ _ h4 (by omega)
      rw [val_limbs] at hbc
      have hx1 := mt nbits_eq_zero.1 hr
      obtain ⟨x, hx⟩ : ∃ x, x = nbits (q.num.natAbs % q.den) := ⟨_, rfl⟩
      rw [← hx] at hbc hx1
      have hx2 : 0 < (x : Int) := by omega
      clear hx
      go_wp2_with fail
      refine hbc.mono ?_
      rintro e w5 ⟨rfl, rfl⟩
      clear hbc
      go_wp2_with fail
      refine (qone_ret _).mono ?_
      rintro e w6 ⟨A6, rfl, h6, hb6⟩
      replace h3 := h3.below hb6
      have l3 : (limbs (q.num.natAbs / q.den)).length ≤ K := by rw [h3.len]; exact hn3
      have l6 : (limbs 1).length ≤ K := by rw [h6.len]; omega
      go_wp2_with fail
      refine (addL (a := K) (by repeat (first | with_reducible assumption | with_reducible apply Rd.drew | with_reducible apply Rd.upAlloc | ((with_reducible apply Rd.up); (with_reducible assumption)) | with_reducible apply RdL.drew | (apply rdl_two'; focus (simp; done)) | with_reducible apply RdL.upAlloc | ((with_reducible apply RdL.up); (with_reducible assumption)))) l3 l6 (by omega)).mono ?_
      rintro e w7 ⟨A7, n7, c7, rfl, h7, hb7, hn7⟩
      simp only [val_limbs] at h7
      have hF7 : From W w7 := From.step (From.alloc (From.step hF3 hb6) _) hb7
      clear hc1
      have hc1 := (Q1.out.later hF7).cells
      clear h3 hF3 hb6 hb7 h4
      go_wp2_with fail
      go_region_held3 (fun w' => Only (w.heap.size + 1) W w' ∧ w'.cell? ⟨w.heap.size, 0, none⟩ = some (.bool true))
        ((go_split_ands; exact ⟨(by repeat (first | with_reducible assumption | with_reducible apply Only.set | with_reducible apply Only.drew | with_reducible apply Only.alloc | ((with_reducible apply From.only); (repeat (first | with_reducible assumption | with_reducible apply From.drew | with_reducible apply From.alloc))))), (BoxQ.only (g' := w.heap.size + 1) Q1.out (by repeat (first | with_reducible assumption | with_reducible apply Only.set | with_reducible apply Only.drew | with_reducible apply Only.alloc | ((with_reducible apply From.only); (repeat (first | with_reducible assumption | with_reducible apply From.drew | with_reducible apply From.alloc))))) (by omega)).cells.1⟩))
        (first
        | (go_at_call 64; (with_reducible refine (qone_ret _).mono ?_); rintro e w' ⟨A9, rfl, h9, hb'⟩; go_split_ands; have hF' : From W w' := From.step (by repeat (first | with_reducible assumption | with_reducible apply From.drew | with_reducible apply From.alloc)) hb')
        | (go_at_call 57; (with_reducible refine (canonical_eq (K := K + 1) (r := ((q.floor : Int) : Rat)) (by repeat (first | with_reducible assumption | with_reducible apply Rd.drew | with_reducible apply Rd.upAlloc | ((with_reducible apply Rd.up); (with_reducible assumption)))) (by repeat (first | with_reducible assumption | with_reducible apply Rd.drew | with_reducible apply Rd.upAlloc | ((with_reducible apply Rd.up); (with_reducible assumption)))) (by simpa only [val_limbs] using HE.out) (by omega) (by omega) (by omega) (by omega)).mono ?_); rintro e w' ⟨A8, n8, c8, B8, m8, d8, rfl, hcan8, hb'⟩; go_split_ands; have hF' : From W w' := From.step (by repeat (first | with_reducible assumption | with_reducible apply From.drew | with_reducible apply From.alloc)) hb'; have hno := (Q3.out.later hF').noNum; have hcg := (Q3.out.later hF').cells; have hfg := (Q3.out.later hF').free))
      go_wp2
      exact bodyPost_ret (v := .agg #[.bool (qneg ((q.floor : Int) : Rat)), .slice A8 n8 c8, .slice B8 m8 d8]) (by simp [results, Try.results43, go_sem, hcg]) rfl ⟨A8, n8, c8, B8, m8, d8, rfl, (by repeat (first | with_reducible assumption | with_reducible apply CanQ.drew | ((with_reducible apply CanQ.store3); (focus assumption)))), Only.bel (g := w.heap.size + 1) (by repeat (first | with_reducible assumption | with_reducible apply Only.set | with_reducible apply Only.drew | with_reducible apply Only.alloc | ((with_reducible apply From.only); (repeat (first | with_reducible assumption | with_reducible apply From.drew | with_reducible apply From.alloc))))) hBs hBs.size (by omega)⟩
end Go.Proofs.Ytlomanhmpbapeaa
