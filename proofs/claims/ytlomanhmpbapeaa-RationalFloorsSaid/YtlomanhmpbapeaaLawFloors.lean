/- The walk of the law RationalFloors. -/
import Derived.Test.YtlomanhmpbapeaaRatFloor2
import Derived.Test.YtlomanhmpbapeaaRatWhole2
import Derived.Test.YtlomanhmpbapeaaRatOf
import Derived.Test.YtlomanhmpbapeaaRatList
namespace Go.Proofs.Ytlomanhmpbapeaa
open Go.RowKit

theorem qadd_two {w : World} {A : Option Addr} {s t : Bool} {ln ld kn kd : List Nat} {p q : Rat} {K : Nat} (h : RawL w A 2 2 [(s, ln, ld), (t, kn, kd)]) (e1 : ratOf s (val ln) (val ld) = p) (e2 : ratOf t (val kn) (val kd) = q)
    (l1 : ln.length ≤ K) (l2 : ld.length ≤ K) (l3 : kn.length ≤ K) (l4 : kd.length ≤ K) (hK1 : 1 ≤ K) (hK : K ≤ 400) :
    Calls Try.prog 35 #[.slice A 2 2] w (RetQ (p + q) (1 + 2 * (K + 1)) w) := by
  have hv : sumT [(s, ln, ld), (t, kn, kd)] = p + q := by
    simp only [sumT, List.map, sumQ, ratT, e1, e2]
    grind
  rw [← hv]
  refine qadd_any A 2 2 _ w h K hK1 (fun x hx => ?_) (by omega)
  simp at hx
  rcases hx with rfl | rfl
  · exact ⟨l1, l2⟩
  · exact ⟨l3, l4⟩

theorem same_part {w : World} {A A2 : Option Addr} {n c n2 c2 : Nat} {l : List Nat} (h : Rd w A n c l) (h' : Rd w A2 n2 c2 l) :
    Calls Try.prog 20 #[.agg #[.bool false, .slice A n c, .slice none 0 0], .agg #[.bool false, .slice A2 n2 c2, .slice none 0 0]] w (Makes (.bool true) w) := by
  have := lsameq_any false A n c l none 0 0 [] false A2 n2 c2 l none 0 0 [] w h (Rd.nil w) h' (Rd.nil w)
  simpa using this

set_option maxHeartbeats 8000000 in
theorem law_RationalFloors (w : World) (s : Bool) (A : Option Addr) (n c : Nat) (ln : List Nat) (B : Option Addr) (m d : Nat) (ld : List Nat) (h : Rd w A n c ln) (sA : n ≤ 35184372088832) (h' : Rd w B m d ld) (sB : m ≤ 35184372088832) :
    Calls Try.prog 13 #[.agg #[.bool s, .slice A n c, .slice B m d]] w (Makes (.bool true) w) := by
  obtain ⟨W, hW, hS, q1⟩ := box1 w s A n c B m d
  have h1 := h.below hS
  have h2 := h'.below hS
  have hlist := rawl_one (s := s) (g := w.heap.size + 1) (by rw [hW]; simp) h1 h2
  have hcall := longq_any 30 _ 1 1 _ _ hlist (by
    intro t ht
    simp only [List.mem_singleton] at ht
    subst ht
    exact ⟨by rw [h1.len]; exact sA, by rw [h2.len]; exact sB⟩) (by omega)
  have hB2 := below_step (below_alloc W (.cells #[.bool s, .slice A n c, .slice B m d] 25)) hS
  have HW := hide hW
  have HCALL := hide hcall
  have q1b := q1.below (below_alloc W (.cells #[.bool s, .slice A n c, .slice B m d] 25))
  have hc1 := q1.cells
  clear hW hcall hlist sA sB h h'
  go_enter Try.func13, Try.ntmps13
  go_wp2_with fail
  rw [← HW.out]
  refine HCALL.out.mono ?_
  rintro e w1 ⟨rfl, hb1⟩
  cases hlong : anyLongQ 30 [(s, ln, ld)] with
  | true =>
    clear hlong hc1
    go_wp2
    go_ret
    exact ⟨rfl, below_step hb1 hB2⟩
  | false =>
    have hnm : n + m ≤ 30 := by
      have := anyLongQ_false hlong (s, ln, ld) (by simp)
      rw [h1.len, h2.len] at this
      exact this
    have hB3 := below_step hb1 hB2
    have q1c := q1b.below hb1
    have k1 := (h1.below (below_alloc _ (.cells #[.bool s, .slice A n c, .slice B m d] 25))).below hb1
    have k2 := (h2.below (below_alloc _ (.cells #[.bool s, .slice A n c, .slice B m d] 25))).below hb1
    obtain ⟨W0, hW0⟩ : ∃ W0 : World, W0 = W := ⟨_, rfl⟩
    rw [← hW0] at HW HCALL
    clear hlong hc1 h1 h2 q1 q1b hS hB2 hb1 HCALL HW hW0
    clear W
    obtain ⟨W, hW⟩ : ∃ W : World, W = w1 := ⟨_, rfl⟩
    subst hW
    obtain ⟨q, hq⟩ : ∃ q, q = ratOf s (val ln) (val ld) := ⟨_, rfl⟩
    have hr : RawQ W s A n c B m d q 30 := ⟨⟨ln, ld, k1, k2, hq.symm⟩, by omega, by omega⟩
    have Q1 := hide q1c
    have hc1 := q1c.cells
    have hz1 := q1c.2
    clear q1c hq k1 k2
    go_wp2_with fail
    refine (qfloor_any _ _ _ _ _ _ _ _ 30 _ hr (by omega) (by omega)).mono ?_
    rintro e w2 ⟨A2, n2, c2, B2, m2, d2, rfl, hcan2, hb2⟩
    replace hr := hr.below hb2
    have Q1b := hide (Q1.out.below hb2)
    clear hc1
    have hc1 := Q1b.out.cells
    have hz2 : w.heap.size < w2.heap.size := Q1b.out.2
    have hne : ¬ w.heap.size = w2.heap.size := by omega
    have hne' : ¬ w2.heap.size = w.heap.size := by omega
    go_wp2_with fail
    have Q3 := hide (BoxQ.new w2 (qneg ((q.floor : Int) : Rat)) A2 n2 c2 B2 m2 d2)
    have hba := below_alloc w2 (.cells #[.bool (qneg ((q.floor : Int) : Rat)), .slice A2 n2 c2, .slice B2 m2 d2] 25)
    have Q1c := hide (Q1b.out.below hba)
    have hcan3 := hcan2.below hba
    replace hr := hr.below hba
    have hB4 := below_step hba (below_step hb2 hB3)
    obtain ⟨W3, hW3⟩ : ∃ W3, W3 = w2.alloc (.cells #[.bool (qneg ((q.floor : Int) : Rat)), .slice A2 n2 c2, .slice B2 m2 d2] 25) := ⟨_, rfl⟩
    rw [← hW3] at Q3 Q1c hcan3 hr hB4 ⊢
    clear hc1 Q1 Q1b hb2 hcan2 hW3 hba hB3 hz1
    generalize w2.heap.size = g3 at *
    clear w2 W
    refine (qwhole_any _ _ _ _ _ _ _ _ 30 _ hr (by omega) (by omega)).mono ?_
    rintro e w4 ⟨A4, n4, c4, rfl, h4, hn4, hb4⟩
    replace hr := hr.below hb4
    have Q1d := hide (Q1c.out.below hb4)
    have Q3d := hide (Q3.out.below hb4)
    have hcan4 := hcan3.below hb4
    have hB5 := below_step hb4 hB4
    have hc1 := Q1d.out.cells
    clear hb4 hB4 hcan3 Q1c Q3
    clear W3
    go_wp2_with fail
    refine (rwhole_any _ _ _ _ _ _ _ _ 30 _ hr (by omega) (by omega)).mono ?_
    rintro e w5 ⟨A5, n5, c5, rfl, h5, hn5, hb5⟩
    replace hr := hr.below hb5
    have Q1e := hide (Q1d.out.below hb5)
    have Q3e := hide (Q3d.out.below hb5)
    have hcan5 := hcan4.below hb5
    replace h4 := h4.below hb5
    have hB6 := below_step hb5 hB5
    clear hc1 hb5 hB5 hcan4 Q1d Q3d
    clear w4
    have hc1 := Q1e.out.cells
    go_wp2_with fail
    refine (rint_q 1 _ (by omega)).mono ?_
    rintro e w6 ⟨A6, n6, c6, B6, m6, d6, rfl, hcan6, hb6⟩
    obtain ⟨o, ho⟩ : ∃ o : Rat, o = ((1 : Int) : Rat) := ⟨_, rfl⟩
    rw [← ho] at hcan6 ⊢
    have HO := hide ho
    clear ho
    replace hr := hr.below hb6
    have Q1f := hide (Q1e.out.below hb6)
    have Q3f := hide (Q3e.out.below hb6)
    have hcan7 := hcan5.below hb6
    replace h4 := h4.below hb6
    replace h5 := h5.below hb6
    have hB7 := below_step hb6 hB6
    clear hc1 hb6 hB6 hcan5 Q1e Q3e
    clear w5
    have hc1 := Q1f.out.cells
    have hc3 := Q3f.out.cells
    have hz6 : w.heap.size < w6.heap.size := Q1f.out.2
    have hz7 : g3 < w6.heap.size := Q3f.out.2
    have hne1 : ¬ w.heap.size = w6.heap.size := by omega
    have hne2 : ¬ w6.heap.size = w.heap.size := by omega
    have hne3 : ¬ g3 = w6.heap.size := by omega
    have hne4 : ¬ w6.heap.size = g3 := by omega
    go_wp2_with fail
    have Q6 := hide (BoxQ.new w6 (qneg o) A6 n6 c6 B6 m6 d6)
    have hba := below_alloc w6 (.cells #[.bool (qneg o), .slice A6 n6 c6, .slice B6 m6 d6] 25)
    have Q1 := hide (Q1f.out.below hba)
    have Q3 := hide (Q3f.out.below hba)
    have hcan := hcan7.below hba
    have hcan1 := hcan6.below hba
    replace hr := hr.below hba
    replace h4 := h4.below hba
    replace h5 := h5.below hba
    have hB := below_step hba hB7
    obtain ⟨W, hW⟩ : ∃ W, W = w6.alloc (.cells #[.bool (qneg o), .slice A6 n6 c6, .slice B6 m6 d6] 25) := ⟨_, rfl⟩
    rw [← hW] at Q1 Q3 Q6 hcan hcan1 hr h4 h5 hB ⊢
    clear hc1 hc3 hba hB7 hcan6 hcan7 Q1f Q3f hW
    generalize w6.heap.size = g6 at *
    clear w6 hne1 hne2 hne3 hne4 hz6 hz7
    have hrf := hcan.raw
    have e1 := hcan.num
    have e2 := hcan.den
    have e3 := hcan1.num
    have e4 := hcan1.den
    have E1 := hide (ratOf_self ((q.floor : Int) : Rat))
    have E2 := hide (ratOf_self o)
    have l1 : (limbs ((q.floor : Int) : Rat).num.natAbs).length ≤ 31 := by rw [e1.len]; exact hcan.hn
    have l2 : (limbs ((q.floor : Int) : Rat).den).length ≤ 31 := by rw [e2.len]; exact hcan.hm
    have l3 : (limbs o.num.natAbs).length ≤ 31 := by rw [e3.len]; have := hcan1.hn; omega
    have l4 : (limbs o.den).length ≤ 31 := by rw [e4.len]; have := hcan1.hm; omega
    obtain ⟨x1, hx1⟩ : ∃ x, x = cmpQ ((q.floor : Int) : Rat) q := ⟨_, rfl⟩
    have hx1n : decide (0 < x1) = false := by rw [decide_eq_false_iff_not]; rw [hx1]; have := floor_le' q; omega
    have HC1 := hide hx1.symm
    obtain ⟨x2, hx2⟩ : ∃ x, x = cmpQ (((q.floor : Int) : Rat) + o) q := ⟨_, rfl⟩
    have hx2n : decide (x2 ≤ 0) = false := by rw [decide_eq_false_iff_not]; rw [hx2]; have := floor_gt' q; rw [show o = 1 from HO.out]; omega
    have HC2 := hide hx2.symm
    clear hx1 hx2
    have hF := From.refl W
    have hc1 := Q1.out.cells
    have hc3 := Q3.out.cells
    have hc6 := Q6.out.cells
    obtain ⟨f, hf⟩ : ∃ f : Rat, f = ((q.floor : Int) : Rat) := ⟨_, rfl⟩
    rw [← hf] at hcan hrf e1 e2 E1 l1 l2 HC1 HC2 Q3 hc3 ⊢
    have HFL := hide hf
    clear hf
    clear HO
    go_region_held3 (fun w' => From W w' ∧ w'.cell? ⟨w.heap.size, 0, none⟩ = some (.bool s) ∧ w'.cell? ⟨w.heap.size, 1, none⟩ = some (.slice A n c) ∧ w'.cell? ⟨w.heap.size, 2, none⟩ = some (.slice B m d) ∧ w'.cell? ⟨g3, 0, none⟩ = some (.bool (qneg f)) ∧ w'.cell? ⟨g3, 1, none⟩ = some (.slice A2 n2 c2) ∧ w'.cell? ⟨g3, 2, none⟩ = some (.slice B2 m2 d2) ∧ w'.cell? ⟨g6, 0, none⟩ = some (.bool (qneg o)) ∧ w'.cell? ⟨g6, 1, none⟩ = some (.slice A6 n6 c6) ∧ w'.cell? ⟨g6, 2, none⟩ = some (.slice B6 m6 d6))
      ((go_split_ands; exact ⟨(by repeat (first | with_reducible assumption | with_reducible apply From.drew | with_reducible apply From.alloc)), (Q1.out.later (by repeat (first | with_reducible assumption | with_reducible apply From.drew | with_reducible apply From.alloc))).cells.1, (Q1.out.later (by repeat (first | with_reducible assumption | with_reducible apply From.drew | with_reducible apply From.alloc))).cells.2.1, (Q1.out.later (by repeat (first | with_reducible assumption | with_reducible apply From.drew | with_reducible apply From.alloc))).cells.2.2, (Q3.out.later (by repeat (first | with_reducible assumption | with_reducible apply From.drew | with_reducible apply From.alloc))).cells.1, (Q3.out.later (by repeat (first | with_reducible assumption | with_reducible apply From.drew | with_reducible apply From.alloc))).cells.2.1, (Q3.out.later (by repeat (first | with_reducible assumption | with_reducible apply From.drew | with_reducible apply From.alloc))).cells.2.2, (Q6.out.later (by repeat (first | with_reducible assumption | with_reducible apply From.drew | with_reducible apply From.alloc))).cells.1, (Q6.out.later (by repeat (first | with_reducible assumption | with_reducible apply From.drew | with_reducible apply From.alloc))).cells.2.1, (Q6.out.later (by repeat (first | with_reducible assumption | with_reducible apply From.drew | with_reducible apply From.alloc))).cells.2.2⟩))
      (first
      | (go_at_call 46; (with_reducible refine (rfloor_any _ _ _ _ _ _ _ _ 30 _ (by repeat (first | with_reducible assumption | with_reducible apply RawQ.drew | with_reducible apply RawQ.upAlloc | ((with_reducible apply RawQ.up); (with_reducible assumption)))) (by omega) (by omega)).mono ?_); rw [← HFL.out]; rintro e w' ⟨A', n', c', B', m', d', rfl, h', hb'⟩; go_split_ands; have hF' : From W w' := From.step (by repeat (first | with_reducible assumption | with_reducible apply From.drew | with_reducible apply From.alloc)) hb')
      | (go_at_call 20; (with_reducible refine (same_q_yes (p := f) (q := f) (by repeat (first | with_reducible assumption | with_reducible apply CanQ.drew | with_reducible apply CanQ.upAlloc | ((with_reducible apply CanQ.up); (with_reducible assumption)))) (by repeat (first | with_reducible assumption | with_reducible apply CanQ.drew | with_reducible apply CanQ.upAlloc | ((with_reducible apply CanQ.up); (with_reducible assumption)))) rfl).mono ?_); rintro e w' ⟨rfl, hb'⟩; go_split_ands; have hF' : From W w' := From.step (by repeat (first | with_reducible assumption | with_reducible apply From.drew | with_reducible apply From.alloc)) hb')
      | (go_at_call 41; (with_reducible refine (qcmp_any _ _ _ _ _ _ _ f 31 _ _ _ _ _ _ _ q 30 _ (RawQ.up (by assumption) (RawQ.up (by assumption) (RawQ.drew hrf))) (by repeat (first | with_reducible assumption | with_reducible apply RawQ.drew | with_reducible apply RawQ.upAlloc | ((with_reducible apply RawQ.up); (with_reducible assumption)))) (by omega) (by omega) (by omega) (by omega)).mono ?_); rw [HC1.out]; rintro e w' ⟨rfl, hb'⟩; go_split_ands; have hF' : From W w' := From.step (by repeat (first | with_reducible assumption | with_reducible apply From.drew | with_reducible apply From.alloc)) hb')
      | (go_at_call 41; (with_reducible refine (qcmp_any _ _ _ _ _ _ _ (f + o) (1 + 2 * (31 + 1)) _ _ _ _ _ _ _ q 30 _ (CanQ.raw (by assumption)) (by repeat (first | with_reducible assumption | with_reducible apply RawQ.drew | with_reducible apply RawQ.upAlloc | ((with_reducible apply RawQ.up); (with_reducible assumption)))) (by omega) (by omega) (by omega) (by omega)).mono ?_); rw [HC2.out]; rintro e w' ⟨rfl, hb'⟩; go_split_ands; have hF' : From W w' := From.step (by repeat (first | with_reducible assumption | with_reducible apply From.drew | with_reducible apply From.alloc)) hb')
      | (go_at_call 35; (with_reducible refine (qadd_two (p := f) (q := o) (K := 31) (by repeat (first | with_reducible assumption | with_reducible apply Rd.drew | with_reducible apply RawL.drew | (apply rawl_two; focus (simp; done)) | with_reducible apply RawL.upAlloc | ((with_reducible apply RawL.up); (with_reducible assumption)) | with_reducible apply Rd.upAlloc | ((with_reducible apply Rd.up); (with_reducible assumption)))) (by rw [val_limbs, val_limbs]; exact E1.out) (by rw [val_limbs, val_limbs]; exact E2.out) (by assumption) (by assumption) (by assumption) (by assumption) (by omega) (by omega)).mono ?_); rintro e w' ⟨A', n', c', B', m', d', rfl, h', hb'⟩; go_split_ands; have hF' : From W w' := From.step (by repeat (first | with_reducible assumption | with_reducible apply From.drew | with_reducible apply From.alloc)) hb'))
    cases hw : wholeQ q with
    | false =>
      simp only [hw, Bool.false_eq_true, if_false] at h4 h5
      clear hw
      go_wp2_with fail
      refine wp_region_tab 22 66 [IsV (.bool false), IsV (.bool false), IsV (.bool true), IsV (.bool true), IsV (.slice A4 n4 c4), IsV (.agg #[.bool false, .slice A4 n4 c4, .slice none 0 0]), IsV (.slice A5 n5 c5), IsV (.agg #[.bool false, .slice A5 n5 c5, .slice none 0 0]), IsV (.bool true), IsV (.bool true), IsV (.bool true), IsV (.bool false), IsV (.bool true), IsV (.bool true), IsV (undef), IsV (undef), IsV (undef), IsV (undef), IsV (undef), IsV (.bool true), IsV (.bool true), IsV (.bool true)] (From W) (by kernel_rfl) (by kernel_rfl) (by kernel_rfl) rfl From.lasting (From.drew (by repeat (first | with_reducible assumption | with_reducible apply From.drew | with_reducible apply From.alloc))) ?_
      simp only [List.take_succ_cons, List.drop_succ_cons, List.take_nil, List.drop_nil]
      refine Tab.cons IsV.lasting (fun wx hx hd => ?_) (fun v45 => ?_)
      · skip
        clear hd
        intro KK hK
        go_simp
        exact hK.out _ _ rfl (Below.refl _ _)
      simp only [Act.put, List.setIfInBounds_toArray, List.set_cons_zero, List.set_cons_succ]
      refine Tab.cons IsV.lasting (fun wx hx hd => ?_) (fun v46 => ?_)
      · skip
        clear hd
        intro KK hK
        go_simp
        exact hK.out _ _ rfl (Below.refl _ _)
      simp only [Act.put, List.setIfInBounds_toArray, List.set_cons_zero, List.set_cons_succ]
      refine Tab.cons IsV.lasting (fun wx hx hd => ?_) (fun v47 => ?_)
      · skip
        have e45 : v45 = _ := (hd _ (.tail _ (.head _)) (by kernel_rfl) : (IsV (.bool false)) v45 wx)
        subst e45
        have e46 : v46 = _ := (hd _ (.head _) (by kernel_rfl) : (IsV (.bool false)) v46 wx)
        subst e46
        clear hd
        intro KK hK
        go_simp
        exact hK.out _ _ rfl (Below.refl _ _)
      simp only [Act.put, List.setIfInBounds_toArray, List.set_cons_zero, List.set_cons_succ]
      refine Tab.cons IsV.lasting (fun wx hx hd => ?_) (fun v48 => ?_)
      · skip
        have e47 : v47 = _ := (hd _ (.head _) (by kernel_rfl) : (IsV (.bool true)) v47 wx)
        subst e47
        clear hd
        intro KK hK
        go_simp
        exact hK.out _ _ rfl (Below.refl _ _)
      simp only [Act.put, List.setIfInBounds_toArray, List.set_cons_zero, List.set_cons_succ]
      refine Tab.cons IsV.lasting (fun wx hx hd => ?_) (fun v49 => ?_)
      · skip
        have e48 : v48 = _ := (hd _ (.head _) (by kernel_rfl) : (IsV (.bool true)) v48 wx)
        subst e48
        clear hd
        intro KK hK
        go_simp
        exact hK.out _ _ rfl (Below.refl _ _)
      simp only [Act.put, List.setIfInBounds_toArray, List.set_cons_zero, List.set_cons_succ]
      refine Tab.cons IsV.lasting (fun wx hx hd => ?_) (fun v50 => ?_)
      · skip
        have e49 : v49 = _ := (hd _ (.head _) (by kernel_rfl) : (IsV (.slice A4 n4 c4)) v49 wx)
        subst e49
        have e48 : v48 = _ := (hd _ (.tail _ (.head _)) (by kernel_rfl) : (IsV (.bool true)) v48 wx)
        subst e48
        clear hd
        intro KK hK
        go_simp
        exact hK.out _ _ rfl (Below.refl _ _)
      simp only [Act.put, List.setIfInBounds_toArray, List.set_cons_zero, List.set_cons_succ]
      refine Tab.cons IsV.lasting (fun wx hx hd => ?_) (fun v51 => ?_)
      · skip
        have e48 : v48 = _ := (hd _ (.tail _ (.tail _ (.head _))) (by kernel_rfl) : (IsV (.bool true)) v48 wx)
        subst e48
        clear hd
        intro KK hK
        go_simp
        exact hK.out _ _ rfl (Below.refl _ _)
      simp only [Act.put, List.setIfInBounds_toArray, List.set_cons_zero, List.set_cons_succ]
      refine Tab.cons IsV.lasting (fun wx hx hd => ?_) (fun v52 => ?_)
      · skip
        have e51 : v51 = _ := (hd _ (.head _) (by kernel_rfl) : (IsV (.slice A5 n5 c5)) v51 wx)
        subst e51
        have e48 : v48 = _ := (hd _ (.tail _ (.tail _ (.tail _ (.head _)))) (by kernel_rfl) : (IsV (.bool true)) v48 wx)
        subst e48
        clear hd
        intro KK hK
        go_simp
        exact hK.out _ _ rfl (Below.refl _ _)
      simp only [Act.put, List.setIfInBounds_toArray, List.set_cons_zero, List.set_cons_succ]
      refine Tab.cons IsV.lasting (fun wx hx hd => ?_) (fun v53 => ?_)
      · skip
        have e50 : v50 = _ := (hd _ (.tail _ (.tail _ (.head _))) (by kernel_rfl) : (IsV (.agg #[.bool false, .slice A4 n4 c4, .slice none 0 0])) v50 wx)
        subst e50
        have e52 : v52 = _ := (hd _ (.head _) (by kernel_rfl) : (IsV (.agg #[.bool false, .slice A5 n5 c5, .slice none 0 0])) v52 wx)
        subst e52
        have e48 : v48 = _ := (hd _ (.tail _ (.tail _ (.tail _ (.tail _ (.head _))))) (by kernel_rfl) : (IsV (.bool true)) v48 wx)
        subst e48
        clear hd
        intro KK hK
        go_simp
        refine (same_part (h4.below hx.out) (h5.below hx.out)).mono ?_
        rintro e w' ⟨rfl, hb'⟩
        exact hK.out _ _ rfl hb'
      simp only [Act.put, List.setIfInBounds_toArray, List.set_cons_zero, List.set_cons_succ]
      refine Tab.cons IsV.lasting (fun wx hx hd => ?_) (fun v54 => ?_)
      · skip
        have e48 : v48 = _ := (hd _ (.tail _ (.tail _ (.tail _ (.tail _ (.tail _ (.head _)))))) (by kernel_rfl) : (IsV (.bool true)) v48 wx)
        subst e48
        have e53 : v53 = _ := (hd _ (.head _) (by kernel_rfl) : (IsV (.bool true)) v53 wx)
        subst e53
        clear hd
        intro KK hK
        go_simp
        exact hK.out _ _ rfl (Below.refl _ _)
      simp only [Act.put, List.setIfInBounds_toArray, List.set_cons_zero, List.set_cons_succ]
      refine Tab.cons IsV.lasting (fun wx hx hd => ?_) (fun v55 => ?_)
      · skip
        have e54 : v54 = _ := (hd _ (.head _) (by kernel_rfl) : (IsV (.bool true)) v54 wx)
        subst e54
        clear hd
        intro KK hK
        go_simp
        exact hK.out _ _ rfl (Below.refl _ _)
      simp only [Act.put, List.setIfInBounds_toArray, List.set_cons_zero, List.set_cons_succ]
      refine Tab.cons IsV.lasting (fun wx hx hd => ?_) (fun v56 => ?_)
      · skip
        have e55 : v55 = _ := (hd _ (.head _) (by kernel_rfl) : (IsV (.bool true)) v55 wx)
        subst e55
        clear hd
        intro KK hK
        go_simp
        exact hK.out _ _ rfl (Below.refl _ _)
      simp only [Act.put, List.setIfInBounds_toArray, List.set_cons_zero, List.set_cons_succ]
      refine Tab.cons IsV.lasting (fun wx hx hd => ?_) (fun v57 => ?_)
      · skip
        have e56 : v56 = _ := (hd _ (.head _) (by kernel_rfl) : (IsV (.bool false)) v56 wx)
        subst e56
        have e55 : v55 = _ := (hd _ (.tail _ (.head _)) (by kernel_rfl) : (IsV (.bool true)) v55 wx)
        subst e55
        clear hd
        intro KK hK
        go_simp
        exact hK.out _ _ rfl (Below.refl _ _)
      simp only [Act.put, List.setIfInBounds_toArray, List.set_cons_zero, List.set_cons_succ]
      refine Tab.cons IsV.lasting (fun wx hx hd => ?_) (fun v58 => ?_)
      · skip
        have e57 : v57 = _ := (hd _ (.head _) (by kernel_rfl) : (IsV (.bool true)) v57 wx)
        subst e57
        have e55 : v55 = _ := (hd _ (.tail _ (.tail _ (.head _))) (by kernel_rfl) : (IsV (.bool true)) v55 wx)
        subst e55
        clear hd
        intro KK hK
        go_simp
        exact hK.out _ _ rfl (Below.refl _ _)
      simp only [Act.put, List.setIfInBounds_toArray, List.set_cons_zero, List.set_cons_succ]
      refine Tab.cons IsV.lasting (fun wx hx hd => ?_) (fun v59 => ?_)
      · skip
        have e58 : v58 = _ := (hd _ (.head _) (by kernel_rfl) : (IsV (.bool true)) v58 wx)
        subst e58
        clear hd
        intro KK hK
        go_simp
        exact hK.out _ _ rfl (Below.refl _ _)
      simp only [Act.put, List.setIfInBounds_toArray, List.set_cons_zero, List.set_cons_succ]
      refine Tab.cons IsV.lasting (fun wx hx hd => ?_) (fun v60 => ?_)
      · skip
        have e59 : v59 = _ := (hd _ (.head _) (by kernel_rfl) : (IsV (undef)) v59 wx)
        subst e59
        have e58 : v58 = _ := (hd _ (.tail _ (.head _)) (by kernel_rfl) : (IsV (.bool true)) v58 wx)
        subst e58
        clear hd
        intro KK hK
        go_simp
        exact hK.out _ _ rfl (Below.refl _ _)
      simp only [Act.put, List.setIfInBounds_toArray, List.set_cons_zero, List.set_cons_succ]
      refine Tab.cons IsV.lasting (fun wx hx hd => ?_) (fun v61 => ?_)
      · skip
        have e58 : v58 = _ := (hd _ (.tail _ (.tail _ (.head _))) (by kernel_rfl) : (IsV (.bool true)) v58 wx)
        subst e58
        clear hd
        intro KK hK
        go_simp
        exact hK.out _ _ rfl (Below.refl _ _)
      simp only [Act.put, List.setIfInBounds_toArray, List.set_cons_zero, List.set_cons_succ]
      refine Tab.cons IsV.lasting (fun wx hx hd => ?_) (fun v62 => ?_)
      · skip
        have e61 : v61 = _ := (hd _ (.head _) (by kernel_rfl) : (IsV (undef)) v61 wx)
        subst e61
        have e58 : v58 = _ := (hd _ (.tail _ (.tail _ (.tail _ (.head _)))) (by kernel_rfl) : (IsV (.bool true)) v58 wx)
        subst e58
        clear hd
        intro KK hK
        go_simp
        exact hK.out _ _ rfl (Below.refl _ _)
      simp only [Act.put, List.setIfInBounds_toArray, List.set_cons_zero, List.set_cons_succ]
      refine Tab.cons IsV.lasting (fun wx hx hd => ?_) (fun v63 => ?_)
      · skip
        have e60 : v60 = _ := (hd _ (.tail _ (.tail _ (.head _))) (by kernel_rfl) : (IsV (undef)) v60 wx)
        subst e60
        have e62 : v62 = _ := (hd _ (.head _) (by kernel_rfl) : (IsV (undef)) v62 wx)
        subst e62
        have e58 : v58 = _ := (hd _ (.tail _ (.tail _ (.tail _ (.tail _ (.head _))))) (by kernel_rfl) : (IsV (.bool true)) v58 wx)
        subst e58
        clear hd
        intro KK hK
        go_simp
        exact hK.out _ _ rfl (Below.refl _ _)
      simp only [Act.put, List.setIfInBounds_toArray, List.set_cons_zero, List.set_cons_succ]
      refine Tab.cons IsV.lasting (fun wx hx hd => ?_) (fun v64 => ?_)
      · skip
        have e58 : v58 = _ := (hd _ (.tail _ (.tail _ (.tail _ (.tail _ (.tail _ (.head _)))))) (by kernel_rfl) : (IsV (.bool true)) v58 wx)
        subst e58
        have e63 : v63 = _ := (hd _ (.head _) (by kernel_rfl) : (IsV (undef)) v63 wx)
        subst e63
        have e55 : v55 = _ := (hd _ (.tail _ (.tail _ (.tail _ (.tail _ (.tail _ (.tail _ (.tail _ (.tail _ (.head _))))))))) (by kernel_rfl) : (IsV (.bool true)) v55 wx)
        subst e55
        clear hd
        intro KK hK
        go_simp
        exact hK.out _ _ rfl (Below.refl _ _)
      simp only [Act.put, List.setIfInBounds_toArray, List.set_cons_zero, List.set_cons_succ]
      refine Tab.cons IsV.lasting (fun wx hx hd => ?_) (fun v65 => ?_)
      · skip
        have e55 : v55 = _ := (hd _ (.tail _ (.tail _ (.tail _ (.tail _ (.tail _ (.tail _ (.tail _ (.tail _ (.tail _ (.head _)))))))))) (by kernel_rfl) : (IsV (.bool true)) v55 wx)
        subst e55
        have e64 : v64 = _ := (hd _ (.head _) (by kernel_rfl) : (IsV (.bool true)) v64 wx)
        subst e64
        clear hd
        intro KK hK
        go_simp
        exact hK.out _ _ rfl (Below.refl _ _)
      simp only [Act.put, List.setIfInBounds_toArray, List.set_cons_zero, List.set_cons_succ]
      refine Tab.cons IsV.lasting (fun wx hx hd => ?_) (fun v2 => ?_)
      · skip
        have e65 : v65 = _ := (hd _ (.head _) (by kernel_rfl) : (IsV (.bool true)) v65 wx)
        subst e65
        clear hd
        intro KK hK
        go_simp
        exact hK.out _ _ rfl (Below.refl _ _)
      simp only [Act.put, List.setIfInBounds_toArray, List.set_cons_zero, List.set_cons_succ]
      refine Tab.nil fun wx hx hd => ?_
      have e2 : v2 = _ := (hd _ (.head _) : (IsV (.bool true)) v2 wx)
      subst e2
      clear hd
      go_wp2
      go_ret
      exact ⟨by rfl, below_step hx.out hB⟩
    | true =>
      simp only [hw, if_true] at h4 h5
      have HWF : Hid (f = q) := HFL.out.trans (whole_floor (by simp [wholeQ] at hw; exact hw.2))
      clear hw
      go_wp2_with fail
      refine wp_region_tab 22 66 [IsV (.bool true), IsV (.bool true), IsV (.bool true), IsV (.bool true), IsV (.slice A4 n4 c4), IsV (.agg #[.bool false, .slice A4 n4 c4, .slice none 0 0]), IsV (.slice A5 n5 c5), IsV (.agg #[.bool false, .slice A5 n5 c5, .slice none 0 0]), IsV (.bool true), IsV (.bool true), IsV (.bool true), IsV (.bool true), IsV (.bool false), IsV (.bool false), IsV (.agg #[.bool s, .slice A n c, .slice B m d]), IsQ f 31, IsV (.agg #[.bool s, .slice A n c, .slice B m d]), IsQ (q) 30, IsV (.bool true), IsV (.bool true), IsV (.bool true), IsV (.bool true)] (From W) (by kernel_rfl) (by kernel_rfl) (by kernel_rfl) rfl From.lasting (From.drew (by repeat (first | with_reducible assumption | with_reducible apply From.drew | with_reducible apply From.alloc))) ?_
      simp only [List.take_succ_cons, List.drop_succ_cons, List.take_nil, List.drop_nil]
      refine Tab.cons IsV.lasting (fun wx hx hd => ?_) (fun v45 => ?_)
      · skip
        clear hd
        intro KK hK
        go_simp
        exact hK.out _ _ rfl (Below.refl _ _)
      simp only [Act.put, List.setIfInBounds_toArray, List.set_cons_zero, List.set_cons_succ]
      refine Tab.cons IsV.lasting (fun wx hx hd => ?_) (fun v46 => ?_)
      · skip
        clear hd
        intro KK hK
        go_simp
        exact hK.out _ _ rfl (Below.refl _ _)
      simp only [Act.put, List.setIfInBounds_toArray, List.set_cons_zero, List.set_cons_succ]
      refine Tab.cons IsV.lasting (fun wx hx hd => ?_) (fun v47 => ?_)
      · skip
        have e45 : v45 = _ := (hd _ (.tail _ (.head _)) (by kernel_rfl) : (IsV (.bool true)) v45 wx)
        subst e45
        have e46 : v46 = _ := (hd _ (.head _) (by kernel_rfl) : (IsV (.bool true)) v46 wx)
        subst e46
        clear hd
        intro KK hK
        go_simp
        exact hK.out _ _ rfl (Below.refl _ _)
      simp only [Act.put, List.setIfInBounds_toArray, List.set_cons_zero, List.set_cons_succ]
      refine Tab.cons IsV.lasting (fun wx hx hd => ?_) (fun v48 => ?_)
      · skip
        have e47 : v47 = _ := (hd _ (.head _) (by kernel_rfl) : (IsV (.bool true)) v47 wx)
        subst e47
        clear hd
        intro KK hK
        go_simp
        exact hK.out _ _ rfl (Below.refl _ _)
      simp only [Act.put, List.setIfInBounds_toArray, List.set_cons_zero, List.set_cons_succ]
      refine Tab.cons IsV.lasting (fun wx hx hd => ?_) (fun v49 => ?_)
      · skip
        have e48 : v48 = _ := (hd _ (.head _) (by kernel_rfl) : (IsV (.bool true)) v48 wx)
        subst e48
        clear hd
        intro KK hK
        go_simp
        exact hK.out _ _ rfl (Below.refl _ _)
      simp only [Act.put, List.setIfInBounds_toArray, List.set_cons_zero, List.set_cons_succ]
      refine Tab.cons IsV.lasting (fun wx hx hd => ?_) (fun v50 => ?_)
      · skip
        have e49 : v49 = _ := (hd _ (.head _) (by kernel_rfl) : (IsV (.slice A4 n4 c4)) v49 wx)
        subst e49
        have e48 : v48 = _ := (hd _ (.tail _ (.head _)) (by kernel_rfl) : (IsV (.bool true)) v48 wx)
        subst e48
        clear hd
        intro KK hK
        go_simp
        exact hK.out _ _ rfl (Below.refl _ _)
      simp only [Act.put, List.setIfInBounds_toArray, List.set_cons_zero, List.set_cons_succ]
      refine Tab.cons IsV.lasting (fun wx hx hd => ?_) (fun v51 => ?_)
      · skip
        have e48 : v48 = _ := (hd _ (.tail _ (.tail _ (.head _))) (by kernel_rfl) : (IsV (.bool true)) v48 wx)
        subst e48
        clear hd
        intro KK hK
        go_simp
        exact hK.out _ _ rfl (Below.refl _ _)
      simp only [Act.put, List.setIfInBounds_toArray, List.set_cons_zero, List.set_cons_succ]
      refine Tab.cons IsV.lasting (fun wx hx hd => ?_) (fun v52 => ?_)
      · skip
        have e51 : v51 = _ := (hd _ (.head _) (by kernel_rfl) : (IsV (.slice A5 n5 c5)) v51 wx)
        subst e51
        have e48 : v48 = _ := (hd _ (.tail _ (.tail _ (.tail _ (.head _)))) (by kernel_rfl) : (IsV (.bool true)) v48 wx)
        subst e48
        clear hd
        intro KK hK
        go_simp
        exact hK.out _ _ rfl (Below.refl _ _)
      simp only [Act.put, List.setIfInBounds_toArray, List.set_cons_zero, List.set_cons_succ]
      refine Tab.cons IsV.lasting (fun wx hx hd => ?_) (fun v53 => ?_)
      · skip
        have e50 : v50 = _ := (hd _ (.tail _ (.tail _ (.head _))) (by kernel_rfl) : (IsV (.agg #[.bool false, .slice A4 n4 c4, .slice none 0 0])) v50 wx)
        subst e50
        have e52 : v52 = _ := (hd _ (.head _) (by kernel_rfl) : (IsV (.agg #[.bool false, .slice A5 n5 c5, .slice none 0 0])) v52 wx)
        subst e52
        have e48 : v48 = _ := (hd _ (.tail _ (.tail _ (.tail _ (.tail _ (.head _))))) (by kernel_rfl) : (IsV (.bool true)) v48 wx)
        subst e48
        clear hd
        intro KK hK
        go_simp
        refine (same_part (h4.below hx.out) (h5.below hx.out)).mono ?_
        rintro e w' ⟨rfl, hb'⟩
        exact hK.out _ _ rfl hb'
      simp only [Act.put, List.setIfInBounds_toArray, List.set_cons_zero, List.set_cons_succ]
      refine Tab.cons IsV.lasting (fun wx hx hd => ?_) (fun v54 => ?_)
      · skip
        have e48 : v48 = _ := (hd _ (.tail _ (.tail _ (.tail _ (.tail _ (.tail _ (.head _)))))) (by kernel_rfl) : (IsV (.bool true)) v48 wx)
        subst e48
        have e53 : v53 = _ := (hd _ (.head _) (by kernel_rfl) : (IsV (.bool true)) v53 wx)
        subst e53
        clear hd
        intro KK hK
        go_simp
        exact hK.out _ _ rfl (Below.refl _ _)
      simp only [Act.put, List.setIfInBounds_toArray, List.set_cons_zero, List.set_cons_succ]
      refine Tab.cons IsV.lasting (fun wx hx hd => ?_) (fun v55 => ?_)
      · skip
        have e54 : v54 = _ := (hd _ (.head _) (by kernel_rfl) : (IsV (.bool true)) v54 wx)
        subst e54
        clear hd
        intro KK hK
        go_simp
        exact hK.out _ _ rfl (Below.refl _ _)
      simp only [Act.put, List.setIfInBounds_toArray, List.set_cons_zero, List.set_cons_succ]
      refine Tab.cons IsV.lasting (fun wx hx hd => ?_) (fun v56 => ?_)
      · skip
        have e55 : v55 = _ := (hd _ (.head _) (by kernel_rfl) : (IsV (.bool true)) v55 wx)
        subst e55
        clear hd
        intro KK hK
        go_simp
        exact hK.out _ _ rfl (Below.refl _ _)
      simp only [Act.put, List.setIfInBounds_toArray, List.set_cons_zero, List.set_cons_succ]
      refine Tab.cons IsV.lasting (fun wx hx hd => ?_) (fun v57 => ?_)
      · skip
        have e56 : v56 = _ := (hd _ (.head _) (by kernel_rfl) : (IsV (.bool true)) v56 wx)
        subst e56
        have e55 : v55 = _ := (hd _ (.tail _ (.head _)) (by kernel_rfl) : (IsV (.bool true)) v55 wx)
        subst e55
        clear hd
        intro KK hK
        go_simp
        exact hK.out _ _ rfl (Below.refl _ _)
      simp only [Act.put, List.setIfInBounds_toArray, List.set_cons_zero, List.set_cons_succ]
      refine Tab.cons IsV.lasting (fun wx hx hd => ?_) (fun v58 => ?_)
      · skip
        have e57 : v57 = _ := (hd _ (.head _) (by kernel_rfl) : (IsV (.bool false)) v57 wx)
        subst e57
        have e55 : v55 = _ := (hd _ (.tail _ (.tail _ (.head _))) (by kernel_rfl) : (IsV (.bool true)) v55 wx)
        subst e55
        clear hd
        intro KK hK
        go_simp
        exact hK.out _ _ rfl (Below.refl _ _)
      simp only [Act.put, List.setIfInBounds_toArray, List.set_cons_zero, List.set_cons_succ]
      refine Tab.cons IsV.lasting (fun wx hx hd => ?_) (fun v59 => ?_)
      · skip
        have e58 : v58 = _ := (hd _ (.head _) (by kernel_rfl) : (IsV (.bool false)) v58 wx)
        subst e58
        clear hd
        intro KK hK
        have hcell := (Q1.out.later hx).cells
        go_simp
        exact hK.out _ _ rfl (Below.refl _ _)
      simp only [Act.put, List.setIfInBounds_toArray, List.set_cons_zero, List.set_cons_succ]
      refine Tab.cons IsQ.lasting (fun wx hx hd => ?_) (fun v60 => ?_)
      · skip
        have e59 : v59 = _ := (hd _ (.head _) (by kernel_rfl) : (IsV (.agg #[.bool s, .slice A n c, .slice B m d])) v59 wx)
        subst e59
        have e58 : v58 = _ := (hd _ (.tail _ (.head _)) (by kernel_rfl) : (IsV (.bool false)) v58 wx)
        subst e58
        clear hd
        intro KK hK
        go_simp
        refine (qfloor_any _ _ _ _ _ _ _ _ 30 _ (hr.below hx.out) (by omega) (by omega)).mono ?_
        rw [← HFL.out]
        rintro e w' ⟨A', n', c', B', m', d', rfl, hc', hb'⟩
        exact hK.out _ _ ⟨A', n', c', B', m', d', rfl, hc'⟩ hb'
      simp only [Act.put, List.setIfInBounds_toArray, List.set_cons_zero, List.set_cons_succ]
      refine Tab.cons IsV.lasting (fun wx hx hd => ?_) (fun v61 => ?_)
      · skip
        have e58 : v58 = _ := (hd _ (.tail _ (.tail _ (.head _))) (by kernel_rfl) : (IsV (.bool false)) v58 wx)
        subst e58
        clear hd
        intro KK hK
        have hcell := (Q1.out.later hx).cells
        go_simp
        exact hK.out _ _ rfl (Below.refl _ _)
      simp only [Act.put, List.setIfInBounds_toArray, List.set_cons_zero, List.set_cons_succ]
      refine Tab.cons IsQ.lasting (fun wx hx hd => ?_) (fun v62 => ?_)
      · skip
        have e61 : v61 = _ := (hd _ (.head _) (by kernel_rfl) : (IsV (.agg #[.bool s, .slice A n c, .slice B m d])) v61 wx)
        subst e61
        have e58 : v58 = _ := (hd _ (.tail _ (.tail _ (.tail _ (.head _)))) (by kernel_rfl) : (IsV (.bool false)) v58 wx)
        subst e58
        clear hd
        intro KK hK
        go_simp
        refine (trim_q _ _ _ _ _ _ _ _ 30 _ (hr.below hx.out) (by omega) (by omega)).mono ?_
        rintro e w' ⟨A', n', c', B', m', d', rfl, hc', hb'⟩
        exact hK.out _ _ ⟨A', n', c', B', m', d', rfl, hc'⟩ hb'
      simp only [Act.put, List.setIfInBounds_toArray, List.set_cons_zero, List.set_cons_succ]
      refine Tab.cons IsV.lasting (fun wx hx hd => ?_) (fun v63 => ?_)
      · skip
        obtain ⟨A60, n60, c60, B60, m60, d60, rfl, h60⟩ := (hd _ (.tail _ (.tail _ (.head _))) (by kernel_rfl) : (IsQ f 31) v60 wx)
        obtain ⟨A62, n62, c62, B62, m62, d62, rfl, h62⟩ := (hd _ (.head _) (by kernel_rfl) : (IsQ (q) 30) v62 wx)
        have e58 : v58 = _ := (hd _ (.tail _ (.tail _ (.tail _ (.tail _ (.head _))))) (by kernel_rfl) : (IsV (.bool false)) v58 wx)
        subst e58
        clear hd
        intro KK hK
        go_simp
        refine (same_q_yes h60 h62 HWF.out).mono ?_
        rintro e w' ⟨rfl, hb'⟩
        exact hK.out _ _ rfl hb'
      simp only [Act.put, List.setIfInBounds_toArray, List.set_cons_zero, List.set_cons_succ]
      refine Tab.cons IsV.lasting (fun wx hx hd => ?_) (fun v64 => ?_)
      · skip
        have e58 : v58 = _ := (hd _ (.tail _ (.tail _ (.tail _ (.tail _ (.tail _ (.head _)))))) (by kernel_rfl) : (IsV (.bool false)) v58 wx)
        subst e58
        have e63 : v63 = _ := (hd _ (.head _) (by kernel_rfl) : (IsV (.bool true)) v63 wx)
        subst e63
        have e55 : v55 = _ := (hd _ (.tail _ (.tail _ (.tail _ (.tail _ (.tail _ (.tail _ (.tail _ (.tail _ (.head _))))))))) (by kernel_rfl) : (IsV (.bool true)) v55 wx)
        subst e55
        clear hd
        intro KK hK
        go_simp
        exact hK.out _ _ rfl (Below.refl _ _)
      simp only [Act.put, List.setIfInBounds_toArray, List.set_cons_zero, List.set_cons_succ]
      refine Tab.cons IsV.lasting (fun wx hx hd => ?_) (fun v65 => ?_)
      · skip
        have e55 : v55 = _ := (hd _ (.tail _ (.tail _ (.tail _ (.tail _ (.tail _ (.tail _ (.tail _ (.tail _ (.tail _ (.head _)))))))))) (by kernel_rfl) : (IsV (.bool true)) v55 wx)
        subst e55
        have e64 : v64 = _ := (hd _ (.head _) (by kernel_rfl) : (IsV (.bool true)) v64 wx)
        subst e64
        clear hd
        intro KK hK
        go_simp
        exact hK.out _ _ rfl (Below.refl _ _)
      simp only [Act.put, List.setIfInBounds_toArray, List.set_cons_zero, List.set_cons_succ]
      refine Tab.cons IsV.lasting (fun wx hx hd => ?_) (fun v2 => ?_)
      · skip
        have e65 : v65 = _ := (hd _ (.head _) (by kernel_rfl) : (IsV (.bool true)) v65 wx)
        subst e65
        clear hd
        intro KK hK
        go_simp
        exact hK.out _ _ rfl (Below.refl _ _)
      simp only [Act.put, List.setIfInBounds_toArray, List.set_cons_zero, List.set_cons_succ]
      refine Tab.nil fun wx hx hd => ?_
      have e2 : v2 = _ := (hd _ (.head _) : (IsV (.bool true)) v2 wx)
      subst e2
      clear hd
      go_wp2
      go_ret
      exact ⟨by rfl, below_step hx.out hB⟩
end Go.Proofs.Ytlomanhmpbapeaa
