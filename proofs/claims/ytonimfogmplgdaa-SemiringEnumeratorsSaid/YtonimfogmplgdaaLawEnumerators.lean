/- The walk of the law SemiringEnumerators. -/
import Derived.Test.YtonimfogmplgdaaPolyP
import Derived.Test.YtonimfogmplgdaaSemi
namespace Go.Proofs.Ytonimfogmplgdaa
open Go.RowKit
theorem rdll_three {w : World} {A1 A2 A3 : Option Addr} {n1 c1 n2 c2 n3 c3 : Nat} {l1 l2 l3 : List (List Nat)} (h1 : RdL w A1 n1 c1 l1) (h2 : RdL w A2 n2 c2 l2) (h3 : RdL w A3 n3 c3 l3) :
    RdLL (w.alloc (.cells #[.slice A1 n1 c1, .slice A2 n2 c2, .slice A3 n3 c3] 29)) (some ⟨w.heap.size, 0, none⟩) 3 3 [l1, l2, l3] := by
  refine ⟨rfl, fun _ => ⟨w.heap.size, 0, rfl, by simp, fun j hj => ?_⟩⟩
  rcases (show j = 0 ∨ j = 1 ∨ j = 2 by omega) with rfl | rfl | rfl
  · exact ⟨A1, n1, c1, by rw [cell_of_row _ _ _ _ _ _ (heap_alloc_new w _)]; rfl, h1.below (below_alloc w _)⟩
  · exact ⟨A2, n2, c2, by rw [cell_of_row _ _ _ _ _ _ (heap_alloc_new w _)]; rfl, h2.below (below_alloc w _)⟩
  · exact ⟨A3, n3, c3, by rw [cell_of_row _ _ _ _ _ _ (heap_alloc_new w _)]; rfl, h3.below (below_alloc w _)⟩

set_option maxHeartbeats 8000000 in
set_option maxRecDepth 10000 in
theorem law_SemiringEnumerators (w : World) (A1 : Option Addr) (n1 c1 : Nat) (l1 : List (List Nat)) (g1 : RdL w A1 n1 c1 l1) (s1 : n1 ≤ 35184372088832) (m1 : ∀ l ∈ l1, l.length ≤ 35184372088832) (A2 : Option Addr) (n2 c2 : Nat) (l2 : List (List Nat)) (g2 : RdL w A2 n2 c2 l2) (s2 : n2 ≤ 35184372088832) (m2 : ∀ l ∈ l2, l.length ≤ 35184372088832) (A3 : Option Addr) (n3 c3 : Nat) (l3 : List (List Nat)) (g3 : RdL w A3 n3 c3 l3) (s3 : n3 ≤ 35184372088832) (m3 : ∀ l ∈ l3, l.length ≤ 35184372088832) :
    Calls Try.prog 4 #[.slice A1 n1 c1, .slice A2 n2 c2, .slice A3 n3 c3] w (Makes (.bool true) w) := by
  have hba := below_alloc w (.cells #[] 37)
  have z1' : (w.alloc (.cells #[] 37)).heap.size = w.heap.size + 1 := by simp
  have hLL := rdll_three (g1.below hba) (g2.below hba) (g3.below hba)
  rw [z1'] at hLL
  have hlen : ∀ ll ∈ [l1, l2, l3], ll.length ≤ 35184372088832 ∧ ∀ l ∈ ll, l.length ≤ 35184372088832 := by
    intro ll hll
    simp only [List.mem_cons, List.not_mem_nil, or_false] at hll
    rcases hll with rfl | rfl | rfl
    · exact ⟨by rw [g1.len]; exact s1, m1⟩
    · exact ⟨by rw [g2.len]; exact s2, m2⟩
    · exact ⟨by rw [g3.len]; exact s3, m3⟩
  have hcall := little_any _ 3 3 _ _ hLL (by omega) hlen
  have hB2 : Below w.heap.size w ((w.alloc (.cells #[] 37)).alloc (.cells #[.slice A1 n1 c1, .slice A2 n2 c2, .slice A3 n3 c3] 29)) := ((Below.refl _ _).alloc (Nat.le_refl _) _).alloc (by simp) _
  have HCALL := hide hcall
  clear hcall hLL hlen z1' hba s1 s2 s3 m1 m2 m3
  go_enter Try.func4, Try.ntmps4
  go_wp2_with fail
  refine HCALL.out.mono ?_
  rintro e w2 ⟨qq, rfl, hw2, hq⟩
  have hB := hB2
  have y1 := g1.below hB2
  have y2 := g2.below hB2
  have y3 := g3.below hB2
  rw [hw2] at hB y1 y2 y3
  clear HCALL hw2 hB2 g1 g2 g3
  obtain ⟨W, hW⟩ : ∃ W : World, W = w2 := ⟨_, rfl⟩
  subst hW
  cases qq with
  | false =>
    clear hq
    go_wp2_with fail
    refine (alive_any _).mono ?_
    rintro e w3 ⟨rfl, hb3⟩
    go_wp2
    go_ret
    exact ⟨rfl, below_step hb3 hB⟩
  | true =>
    have hsum := hq rfl
    simp only [sizeLL, List.map_cons, List.map_nil, List.sum_cons, List.sum_nil] at hsum
    clear hq
    have r1 := pin_of y1 (by omega)
    have r2 := pin_of y2 (by omega)
    have r3 := pin_of y3 (by omega)
    clear hsum y1 y2 y3
    generalize l1.map val = a at *
    generalize l2.map val = b at *
    generalize l3.map val = c at *
    go_wp2_with fail
    refine (zero_in _ 120).mono ?_
    rintro e w3 ⟨A4, n4, c4, rfl, hz, hn4, hb3⟩
    obtain rfl : n4 = 0 := by omega
    clear hz hn4
    go_wp2_with fail
    refine (one_in _).mono ?_
    rintro e w4 ⟨A5, n5, c5, rfl, ho, hn5, hb4⟩
    go_wp2_with fail
    have hba : Below w4.heap.size w4 ((w4.alloc (.cells #[.int .u32 1] 33)).alloc (.cells #[.slice (some ⟨w4.heap.size, 0, none⟩) 1 1] 23)) := ((Below.refl _ _).alloc (Nat.le_refl _) _).alloc (by simp) _
    refine (psame_yes (ho.below hba) (lit_one (g := w4.heap.size + 1) (by simp)) rfl).mono ?_
    rintro e w5 ⟨rfl, hb5⟩
    have hF := From.step (From.step (From.step (From.step (From.refl W) hb3) hb4) hba) hb5
    clear ho hn5 hb3 hb4 hba hb5
    go_wp2_with fail
    refine (add_in (r1.below hF.out) (r2.below hF.out) (by omega) (by omega)).mono ?_
    rintro e w6 ⟨A6, n6, c6, rfl, h6, k6, hb6⟩
    have hF6 := From.step hF hb6
    clear hF
    go_wp2_with fail
    refine (radd_in (r1.below hF6.out) (r2.below hF6.out) (by omega) (by omega)).mono ?_
    rintro e w7 ⟨A7, n7, c7, rfl, h7, k7, hb7⟩
    go_wp2_with fail
    refine (psame_yes (h6.below hb7) h7 rfl).mono ?_
    rintro e w8 ⟨rfl, hb8⟩
    have hF := From.step (From.step hF6 hb7) hb8
    clear h6 k6 hb6 h7 k7 hb7 hb8 hF6
    go_wp2_with fail
    refine (mul_in (r1.below hF.out) (r2.below hF.out) (by omega) (by omega) (by omega) (by omega)).mono ?_
    rintro e w6 ⟨A8, n8, c8, rfl, h6, k6, hb6⟩
    have hF6 := From.step hF hb6
    clear hF
    go_wp2_with fail
    refine (rmul_in (r1.below hF6.out) (r2.below hF6.out) (by omega) (by omega) (by omega) (by omega)).mono ?_
    rintro e w7 ⟨A9, n9, c9, rfl, h7, k7, hb7⟩
    go_wp2_with fail
    refine (psame_yes (h6.below hb7) h7 rfl).mono ?_
    rintro e w8 ⟨rfl, hb8⟩
    have hF := From.step (From.step hF6 hb7) hb8
    clear h6 k6 hb6 h7 k7 hb7 hb8 hF6
    obtain ⟨b4, hb4⟩ : ∃ b4, b4 = decide (trimN a = trimN b) := ⟨_, rfl⟩
    have X9 := hide hb4.symm
    clear hb4
    go_wp2_with fail
    refine wp_region_tab 32 98 [IsV (.agg #[]), IsV (.slice A1 n1 c1), IsV (.slice A2 n2 c2), IsV (.bool b4), IsV (.slice A1 n1 c1), IsPl (trimN a) 120 120, IsV (.slice A2 n2 c2), IsPl (trimN b) 120 120, IsV (.bool b4), IsV (.bool false), IsV (.bool false), IsV (.agg #[]), IsV (.agg #[]), IsV (.slice A1 n1 c1), IsV (.agg #[]), IsPl ([]) 120 0, IsPl (addP a ([])) 121 120, IsV (.slice A1 n1 c1), IsV (.bool true), IsV (.bool false), IsV (.bool false), IsV (.bool false), IsV (.agg #[]), IsV (.agg #[]), IsV (.slice A1 n1 c1), IsV (.agg #[]), IsPl ([1]) 1 1, IsPl (mulP a ([1])) 122 121, IsV (.slice A1 n1 c1), IsV (.bool true), IsV (.bool false), IsV (.bool false)] (From W) (by kernel_rfl) (by kernel_rfl) (by kernel_rfl) rfl From.lastsP (From.drew hF) ?_
    simp only [List.take_succ_cons, List.drop_succ_cons, List.take_nil, List.drop_nil]
    refine Tab.cons IsV.lasting (fun wx hx hd => ?_) (fun v48 => ?_)
    · skip
      clear hd
      intro KK hK
      go_simp
      exact hK.out _ _ rfl (Below.refl _ _)
    simp only [Act.put, List.setIfInBounds_toArray, List.set_cons_zero, List.set_cons_succ]
    refine Tab.cons IsV.lasting (fun wx hx hd => ?_) (fun v49 => ?_)
    · skip
      clear hd
      intro KK hK
      go_simp
      exact hK.out _ _ rfl (Below.refl _ _)
    simp only [Act.put, List.setIfInBounds_toArray, List.set_cons_zero, List.set_cons_succ]
    refine Tab.cons IsV.lasting (fun wx hx hd => ?_) (fun v50 => ?_)
    · skip
      clear hd
      intro KK hK
      go_simp
      exact hK.out _ _ rfl (Below.refl _ _)
    simp only [Act.put, List.setIfInBounds_toArray, List.set_cons_zero, List.set_cons_succ]
    refine Tab.cons IsV.lasting (fun wx hx hd => ?_) (fun v51 => ?_)
    · skip
      have e48 : v48 = _ := (hd _ (.tail _ (.tail _ (.head _))) (by kernel_rfl) : (IsV (.agg #[])) v48 wx)
      subst e48
      have e49 : v49 = _ := (hd _ (.tail _ (.head _)) (by kernel_rfl) : (IsV (.slice A1 n1 c1)) v49 wx)
      subst e49
      have e50 : v50 = _ := (hd _ (.head _) (by kernel_rfl) : (IsV (.slice A2 n2 c2)) v50 wx)
      subst e50
      clear hd
      intro KK hK
      go_simp
      have hct := esame_in (r1.below hx.out) (r2.below hx.out) (by omega) (by omega) (by omega) (by omega)
      rw [X9.out] at hct
      refine hct.mono ?_
      rintro e w' ⟨rfl, hb'⟩
      exact hK.out _ _ rfl hb'
    simp only [Act.put, List.setIfInBounds_toArray, List.set_cons_zero, List.set_cons_succ]
    refine Tab.cons IsV.lasting (fun wx hx hd => ?_) (fun v52 => ?_)
    · skip
      clear hd
      intro KK hK
      go_simp
      exact hK.out _ _ rfl (Below.refl _ _)
    simp only [Act.put, List.setIfInBounds_toArray, List.set_cons_zero, List.set_cons_succ]
    refine Tab.cons IsPl.lasting (fun wx hx hd => ?_) (fun v53 => ?_)
    · skip
      have e52 : v52 = _ := (hd _ (.head _) (by kernel_rfl) : (IsV (.slice A1 n1 c1)) v52 wx)
      subst e52
      clear hd
      intro KK hK
      go_simp
      refine (poly_in (r1.below hx.out) (by omega) (by omega)).mono ?_
      rintro e w' ⟨A', n', c', rfl, h', hn', hb'⟩
      exact hK.out _ _ ⟨A', n', c', rfl, h', hn'⟩ hb'
    simp only [Act.put, List.setIfInBounds_toArray, List.set_cons_zero, List.set_cons_succ]
    refine Tab.cons IsV.lasting (fun wx hx hd => ?_) (fun v54 => ?_)
    · skip
      clear hd
      intro KK hK
      go_simp
      exact hK.out _ _ rfl (Below.refl _ _)
    simp only [Act.put, List.setIfInBounds_toArray, List.set_cons_zero, List.set_cons_succ]
    refine Tab.cons IsPl.lasting (fun wx hx hd => ?_) (fun v55 => ?_)
    · skip
      have e54 : v54 = _ := (hd _ (.head _) (by kernel_rfl) : (IsV (.slice A2 n2 c2)) v54 wx)
      subst e54
      clear hd
      intro KK hK
      go_simp
      refine (poly_in (r2.below hx.out) (by omega) (by omega)).mono ?_
      rintro e w' ⟨A', n', c', rfl, h', hn', hb'⟩
      exact hK.out _ _ ⟨A', n', c', rfl, h', hn'⟩ hb'
    simp only [Act.put, List.setIfInBounds_toArray, List.set_cons_zero, List.set_cons_succ]
    refine Tab.cons IsV.lasting (fun wx hx hd => ?_) (fun v56 => ?_)
    · skip
      obtain ⟨A53, n53, c53, rfl, h53, k53⟩ := (hd _ (.tail _ (.tail _ (.head _))) (by kernel_rfl) : (IsPl (trimN a) 120 120) v53 wx)
      obtain ⟨A55, n55, c55, rfl, h55, k55⟩ := (hd _ (.head _) (by kernel_rfl) : (IsPl (trimN b) 120 120) v55 wx)
      clear hd
      intro KK hK
      go_simp
      have hct := psame_any _ _ _ _ _ _ _ _ _ _ _ h53 h55
      rw [X9.out] at hct
      refine hct.mono ?_
      rintro e w' ⟨rfl, hb'⟩
      exact hK.out _ _ rfl hb'
    simp only [Act.put, List.setIfInBounds_toArray, List.set_cons_zero, List.set_cons_succ]
    refine Tab.cons IsV.lasting (fun wx hx hd => ?_) (fun v57 => ?_)
    · skip
      have e51 : v51 = _ := (hd _ (.tail _ (.tail _ (.tail _ (.tail _ (.tail _ (.head _)))))) (by kernel_rfl) : (IsV (.bool b4)) v51 wx)
      subst e51
      have e56 : v56 = _ := (hd _ (.head _) (by kernel_rfl) : (IsV (.bool b4)) v56 wx)
      subst e56
      clear hd
      intro KK hK
      cases b4 <;> go_simp <;> (first | exact hK.out _ _ rfl (Below.refl _ _))
    simp only [Act.put, List.setIfInBounds_toArray, List.set_cons_zero, List.set_cons_succ]
    refine Tab.cons IsV.lasting (fun wx hx hd => ?_) (fun v58 => ?_)
    · skip
      have e57 : v57 = _ := (hd _ (.head _) (by kernel_rfl) : (IsV (.bool false)) v57 wx)
      subst e57
      clear hd
      intro KK hK
      go_simp
      exact hK.out _ _ rfl (Below.refl _ _)
    simp only [Act.put, List.setIfInBounds_toArray, List.set_cons_zero, List.set_cons_succ]
    refine Tab.cons IsV.lasting (fun wx hx hd => ?_) (fun v59 => ?_)
    · skip
      have e58 : v58 = _ := (hd _ (.head _) (by kernel_rfl) : (IsV (.bool false)) v58 wx)
      subst e58
      clear hd
      intro KK hK
      go_simp
      exact hK.out _ _ rfl (Below.refl _ _)
    simp only [Act.put, List.setIfInBounds_toArray, List.set_cons_zero, List.set_cons_succ]
    refine Tab.cons IsV.lasting (fun wx hx hd => ?_) (fun v60 => ?_)
    · skip
      have e58 : v58 = _ := (hd _ (.tail _ (.head _)) (by kernel_rfl) : (IsV (.bool false)) v58 wx)
      subst e58
      clear hd
      intro KK hK
      go_simp
      exact hK.out _ _ rfl (Below.refl _ _)
    simp only [Act.put, List.setIfInBounds_toArray, List.set_cons_zero, List.set_cons_succ]
    refine Tab.cons IsV.lasting (fun wx hx hd => ?_) (fun v61 => ?_)
    · skip
      have e58 : v58 = _ := (hd _ (.tail _ (.tail _ (.head _))) (by kernel_rfl) : (IsV (.bool false)) v58 wx)
      subst e58
      clear hd
      intro KK hK
      go_simp
      exact hK.out _ _ rfl (Below.refl _ _)
    simp only [Act.put, List.setIfInBounds_toArray, List.set_cons_zero, List.set_cons_succ]
    refine Tab.cons IsV.lasting (fun wx hx hd => ?_) (fun v62 => ?_)
    · skip
      have e58 : v58 = _ := (hd _ (.tail _ (.tail _ (.tail _ (.head _)))) (by kernel_rfl) : (IsV (.bool false)) v58 wx)
      subst e58
      clear hd
      intro KK hK
      go_simp
      exact hK.out _ _ rfl (Below.refl _ _)
    simp only [Act.put, List.setIfInBounds_toArray, List.set_cons_zero, List.set_cons_succ]
    refine Tab.cons IsPl.lasting (fun wx hx hd => ?_) (fun v63 => ?_)
    · skip
      have e62 : v62 = _ := (hd _ (.head _) (by kernel_rfl) : (IsV (.agg #[])) v62 wx)
      subst e62
      have e58 : v58 = _ := (hd _ (.tail _ (.tail _ (.tail _ (.tail _ (.head _))))) (by kernel_rfl) : (IsV (.bool false)) v58 wx)
      subst e58
      clear hd
      intro KK hK
      go_simp
      refine (zero_in _ 120).mono ?_
      rintro e w' ⟨A', n', c', rfl, h', hn', hb'⟩
      exact hK.out _ _ ⟨A', n', c', rfl, h', hn'⟩ hb'
    simp only [Act.put, List.setIfInBounds_toArray, List.set_cons_zero, List.set_cons_succ]
    refine Tab.cons IsPl.lasting (fun wx hx hd => ?_) (fun v64 => ?_)
    · skip
      have e60 : v60 = _ := (hd _ (.tail _ (.tail _ (.tail _ (.head _)))) (by kernel_rfl) : (IsV (.agg #[])) v60 wx)
      subst e60
      have e61 : v61 = _ := (hd _ (.tail _ (.tail _ (.head _))) (by kernel_rfl) : (IsV (.slice A1 n1 c1)) v61 wx)
      subst e61
      obtain ⟨A63, n63, c63, rfl, h63, k63⟩ := (hd _ (.head _) (by kernel_rfl) : (IsPl ([]) 120 0) v63 wx)
      have e58 : v58 = _ := (hd _ (.tail _ (.tail _ (.tail _ (.tail _ (.tail _ (.head _)))))) (by kernel_rfl) : (IsV (.bool false)) v58 wx)
      subst e58
      clear hd
      intro KK hK
      go_simp
      refine (add_in (r1.below hx.out) (PIn.wide (K' := 120) (M' := 120) (h63.pin k63) (by omega) (by omega)) (by omega) (by omega)).mono ?_
      rintro e w' ⟨A', n', c', rfl, h', hn', hb'⟩
      exact hK.out _ _ ⟨A', n', c', rfl, h', hn'⟩ hb'
    simp only [Act.put, List.setIfInBounds_toArray, List.set_cons_zero, List.set_cons_succ]
    refine Tab.cons IsV.lasting (fun wx hx hd => ?_) (fun v65 => ?_)
    · skip
      have e58 : v58 = _ := (hd _ (.tail _ (.tail _ (.tail _ (.tail _ (.tail _ (.tail _ (.head _))))))) (by kernel_rfl) : (IsV (.bool false)) v58 wx)
      subst e58
      clear hd
      intro KK hK
      go_simp
      exact hK.out _ _ rfl (Below.refl _ _)
    simp only [Act.put, List.setIfInBounds_toArray, List.set_cons_zero, List.set_cons_succ]
    refine Tab.cons IsV.lasting (fun wx hx hd => ?_) (fun v66 => ?_)
    · skip
      have e59 : v59 = _ := (hd _ (.tail _ (.tail _ (.tail _ (.tail _ (.tail _ (.tail _ (.head _))))))) (by kernel_rfl) : (IsV (.agg #[])) v59 wx)
      subst e59
      obtain ⟨A64, n64, c64, rfl, h64, k64⟩ := (hd _ (.tail _ (.head _)) (by kernel_rfl) : (IsPl (addP a ([])) 121 120) v64 wx)
      have e65 : v65 = _ := (hd _ (.head _) (by kernel_rfl) : (IsV (.slice A1 n1 c1)) v65 wx)
      subst e65
      have e58 : v58 = _ := (hd _ (.tail _ (.tail _ (.tail _ (.tail _ (.tail _ (.tail _ (.tail _ (.head _)))))))) (by kernel_rfl) : (IsV (.bool false)) v58 wx)
      subst e58
      clear hd
      intro KK hK
      go_simp
      refine (esame_yes (h64.pin k64) (r1.below hx.out) (by omega) (by omega) (by omega) (by omega) (by rw [addP_nil, trimN_idem])).mono ?_
      rintro e w' ⟨rfl, hb'⟩
      exact hK.out _ _ rfl hb'
    simp only [Act.put, List.setIfInBounds_toArray, List.set_cons_zero, List.set_cons_succ]
    refine Tab.cons IsV.lasting (fun wx hx hd => ?_) (fun v67 => ?_)
    · skip
      have e66 : v66 = _ := (hd _ (.head _) (by kernel_rfl) : (IsV (.bool true)) v66 wx)
      subst e66
      have e58 : v58 = _ := (hd _ (.tail _ (.tail _ (.tail _ (.tail _ (.tail _ (.tail _ (.tail _ (.tail _ (.head _))))))))) (by kernel_rfl) : (IsV (.bool false)) v58 wx)
      subst e58
      clear hd
      intro KK hK
      go_simp
      exact hK.out _ _ rfl (Below.refl _ _)
    simp only [Act.put, List.setIfInBounds_toArray, List.set_cons_zero, List.set_cons_succ]
    refine Tab.cons IsV.lasting (fun wx hx hd => ?_) (fun v68 => ?_)
    · skip
      have e58 : v58 = _ := (hd _ (.tail _ (.tail _ (.tail _ (.tail _ (.tail _ (.tail _ (.tail _ (.tail _ (.tail _ (.head _)))))))))) (by kernel_rfl) : (IsV (.bool false)) v58 wx)
      subst e58
      have e67 : v67 = _ := (hd _ (.head _) (by kernel_rfl) : (IsV (.bool false)) v67 wx)
      subst e67
      clear hd
      intro KK hK
      go_simp
      exact hK.out _ _ rfl (Below.refl _ _)
    simp only [Act.put, List.setIfInBounds_toArray, List.set_cons_zero, List.set_cons_succ]
    refine Tab.cons IsV.lasting (fun wx hx hd => ?_) (fun v69 => ?_)
    · skip
      have e68 : v68 = _ := (hd _ (.head _) (by kernel_rfl) : (IsV (.bool false)) v68 wx)
      subst e68
      clear hd
      intro KK hK
      go_simp
      exact hK.out _ _ rfl (Below.refl _ _)
    simp only [Act.put, List.setIfInBounds_toArray, List.set_cons_zero, List.set_cons_succ]
    refine Tab.cons IsV.lasting (fun wx hx hd => ?_) (fun v70 => ?_)
    · skip
      have e69 : v69 = _ := (hd _ (.head _) (by kernel_rfl) : (IsV (.bool false)) v69 wx)
      subst e69
      clear hd
      intro KK hK
      go_simp
      exact hK.out _ _ rfl (Below.refl _ _)
    simp only [Act.put, List.setIfInBounds_toArray, List.set_cons_zero, List.set_cons_succ]
    refine Tab.cons IsV.lasting (fun wx hx hd => ?_) (fun v71 => ?_)
    · skip
      have e69 : v69 = _ := (hd _ (.tail _ (.head _)) (by kernel_rfl) : (IsV (.bool false)) v69 wx)
      subst e69
      clear hd
      intro KK hK
      go_simp
      exact hK.out _ _ rfl (Below.refl _ _)
    simp only [Act.put, List.setIfInBounds_toArray, List.set_cons_zero, List.set_cons_succ]
    refine Tab.cons IsV.lasting (fun wx hx hd => ?_) (fun v72 => ?_)
    · skip
      have e69 : v69 = _ := (hd _ (.tail _ (.tail _ (.head _))) (by kernel_rfl) : (IsV (.bool false)) v69 wx)
      subst e69
      clear hd
      intro KK hK
      go_simp
      exact hK.out _ _ rfl (Below.refl _ _)
    simp only [Act.put, List.setIfInBounds_toArray, List.set_cons_zero, List.set_cons_succ]
    refine Tab.cons IsV.lasting (fun wx hx hd => ?_) (fun v73 => ?_)
    · skip
      have e69 : v69 = _ := (hd _ (.tail _ (.tail _ (.tail _ (.head _)))) (by kernel_rfl) : (IsV (.bool false)) v69 wx)
      subst e69
      clear hd
      intro KK hK
      go_simp
      exact hK.out _ _ rfl (Below.refl _ _)
    simp only [Act.put, List.setIfInBounds_toArray, List.set_cons_zero, List.set_cons_succ]
    refine Tab.cons IsPl.lasting (fun wx hx hd => ?_) (fun v74 => ?_)
    · skip
      have e73 : v73 = _ := (hd _ (.head _) (by kernel_rfl) : (IsV (.agg #[])) v73 wx)
      subst e73
      have e69 : v69 = _ := (hd _ (.tail _ (.tail _ (.tail _ (.tail _ (.head _))))) (by kernel_rfl) : (IsV (.bool false)) v69 wx)
      subst e69
      clear hd
      intro KK hK
      go_simp
      refine (one_in _).mono ?_
      rintro e w' ⟨A', n', c', rfl, h', hn', hb'⟩
      exact hK.out _ _ ⟨A', n', c', rfl, h', hn'⟩ hb'
    simp only [Act.put, List.setIfInBounds_toArray, List.set_cons_zero, List.set_cons_succ]
    refine Tab.cons IsPl.lasting (fun wx hx hd => ?_) (fun v75 => ?_)
    · skip
      have e71 : v71 = _ := (hd _ (.tail _ (.tail _ (.tail _ (.head _)))) (by kernel_rfl) : (IsV (.agg #[])) v71 wx)
      subst e71
      have e72 : v72 = _ := (hd _ (.tail _ (.tail _ (.head _))) (by kernel_rfl) : (IsV (.slice A1 n1 c1)) v72 wx)
      subst e72
      obtain ⟨A74, n74, c74, rfl, h74, k74⟩ := (hd _ (.head _) (by kernel_rfl) : (IsPl ([1]) 1 1) v74 wx)
      have e69 : v69 = _ := (hd _ (.tail _ (.tail _ (.tail _ (.tail _ (.tail _ (.head _)))))) (by kernel_rfl) : (IsV (.bool false)) v69 wx)
      subst e69
      clear hd
      intro KK hK
      go_simp
      refine (mul_in (r1.below hx.out) (h74.pin k74) (by omega) (by omega) (by omega) (by omega)).mono ?_
      rintro e w' ⟨A', n', c', rfl, h', hn', hb'⟩
      exact hK.out _ _ ⟨A', n', c', rfl, h', hn'⟩ hb'
    simp only [Act.put, List.setIfInBounds_toArray, List.set_cons_zero, List.set_cons_succ]
    refine Tab.cons IsV.lasting (fun wx hx hd => ?_) (fun v76 => ?_)
    · skip
      have e69 : v69 = _ := (hd _ (.tail _ (.tail _ (.tail _ (.tail _ (.tail _ (.tail _ (.head _))))))) (by kernel_rfl) : (IsV (.bool false)) v69 wx)
      subst e69
      clear hd
      intro KK hK
      go_simp
      exact hK.out _ _ rfl (Below.refl _ _)
    simp only [Act.put, List.setIfInBounds_toArray, List.set_cons_zero, List.set_cons_succ]
    refine Tab.cons IsV.lasting (fun wx hx hd => ?_) (fun v77 => ?_)
    · skip
      have e70 : v70 = _ := (hd _ (.tail _ (.tail _ (.tail _ (.tail _ (.tail _ (.tail _ (.head _))))))) (by kernel_rfl) : (IsV (.agg #[])) v70 wx)
      subst e70
      obtain ⟨A75, n75, c75, rfl, h75, k75⟩ := (hd _ (.tail _ (.head _)) (by kernel_rfl) : (IsPl (mulP a ([1])) 122 121) v75 wx)
      have e76 : v76 = _ := (hd _ (.head _) (by kernel_rfl) : (IsV (.slice A1 n1 c1)) v76 wx)
      subst e76
      have e69 : v69 = _ := (hd _ (.tail _ (.tail _ (.tail _ (.tail _ (.tail _ (.tail _ (.tail _ (.head _)))))))) (by kernel_rfl) : (IsV (.bool false)) v69 wx)
      subst e69
      clear hd
      intro KK hK
      go_simp
      refine (esame_yes (h75.pin k75) (r1.below hx.out) (by omega) (by omega) (by omega) (by omega) (by rw [mulP_one, trimN_idem])).mono ?_
      rintro e w' ⟨rfl, hb'⟩
      exact hK.out _ _ rfl hb'
    simp only [Act.put, List.setIfInBounds_toArray, List.set_cons_zero, List.set_cons_succ]
    refine Tab.cons IsV.lasting (fun wx hx hd => ?_) (fun v78 => ?_)
    · skip
      have e77 : v77 = _ := (hd _ (.head _) (by kernel_rfl) : (IsV (.bool true)) v77 wx)
      subst e77
      have e69 : v69 = _ := (hd _ (.tail _ (.tail _ (.tail _ (.tail _ (.tail _ (.tail _ (.tail _ (.tail _ (.head _))))))))) (by kernel_rfl) : (IsV (.bool false)) v69 wx)
      subst e69
      clear hd
      intro KK hK
      go_simp
      exact hK.out _ _ rfl (Below.refl _ _)
    simp only [Act.put, List.setIfInBounds_toArray, List.set_cons_zero, List.set_cons_succ]
    refine Tab.cons IsV.lasting (fun wx hx hd => ?_) (fun v79 => ?_)
    · skip
      have e69 : v69 = _ := (hd _ (.tail _ (.tail _ (.tail _ (.tail _ (.tail _ (.tail _ (.tail _ (.tail _ (.tail _ (.head _)))))))))) (by kernel_rfl) : (IsV (.bool false)) v69 wx)
      subst e69
      have e78 : v78 = _ := (hd _ (.head _) (by kernel_rfl) : (IsV (.bool false)) v78 wx)
      subst e78
      clear hd
      intro KK hK
      go_simp
      exact hK.out _ _ rfl (Below.refl _ _)
    simp only [Act.put, List.setIfInBounds_toArray, List.set_cons_zero, List.set_cons_succ]
    refine Tab.nil fun wx hx hd => ?_
    have e79 : v79 = _ := (hd _ (.head _) : (IsV (.bool false)) v79 wx)
    subst e79
    clear hd
    clear hF
    have hF := hx
    clear hx
    go_wp2_with fail
    refine wp_region_tab 19 98 [IsV (.agg #[]), IsV (.slice A1 n1 c1), IsV (.agg #[]), IsV (.slice A2 n2 c2), IsV (.slice A3 n3 c3), IsPl (addP b c) 121 120, IsPl (mulP a (addP b c)) 242 240, IsV (.agg #[]), IsV (.agg #[]), IsV (.slice A1 n1 c1), IsV (.slice A2 n2 c2), IsPl (mulP a b) 241 240, IsV (.agg #[]), IsV (.slice A1 n1 c1), IsV (.slice A3 n3 c3), IsPl (mulP a c) 241 240, IsPl (addP (mulP a b) (mulP a c)) 242 240, IsV (.bool true), IsV (.bool true)] (From W) (by kernel_rfl) (by kernel_rfl) (by kernel_rfl) rfl From.lastsP (From.drew hF) ?_
    simp only [List.take_succ_cons, List.drop_succ_cons, List.take_nil, List.drop_nil]
    refine Tab.cons IsV.lasting (fun wx hx hd => ?_) (fun v80 => ?_)
    · skip
      clear hd
      intro KK hK
      go_simp
      exact hK.out _ _ rfl (Below.refl _ _)
    simp only [Act.put, List.setIfInBounds_toArray, List.set_cons_zero, List.set_cons_succ]
    refine Tab.cons IsV.lasting (fun wx hx hd => ?_) (fun v81 => ?_)
    · skip
      clear hd
      intro KK hK
      go_simp
      exact hK.out _ _ rfl (Below.refl _ _)
    simp only [Act.put, List.setIfInBounds_toArray, List.set_cons_zero, List.set_cons_succ]
    refine Tab.cons IsV.lasting (fun wx hx hd => ?_) (fun v82 => ?_)
    · skip
      clear hd
      intro KK hK
      go_simp
      exact hK.out _ _ rfl (Below.refl _ _)
    simp only [Act.put, List.setIfInBounds_toArray, List.set_cons_zero, List.set_cons_succ]
    refine Tab.cons IsV.lasting (fun wx hx hd => ?_) (fun v83 => ?_)
    · skip
      clear hd
      intro KK hK
      go_simp
      exact hK.out _ _ rfl (Below.refl _ _)
    simp only [Act.put, List.setIfInBounds_toArray, List.set_cons_zero, List.set_cons_succ]
    refine Tab.cons IsV.lasting (fun wx hx hd => ?_) (fun v84 => ?_)
    · skip
      clear hd
      intro KK hK
      go_simp
      exact hK.out _ _ rfl (Below.refl _ _)
    simp only [Act.put, List.setIfInBounds_toArray, List.set_cons_zero, List.set_cons_succ]
    refine Tab.cons IsPl.lasting (fun wx hx hd => ?_) (fun v85 => ?_)
    · skip
      have e82 : v82 = _ := (hd _ (.tail _ (.tail _ (.head _))) (by kernel_rfl) : (IsV (.agg #[])) v82 wx)
      subst e82
      have e83 : v83 = _ := (hd _ (.tail _ (.head _)) (by kernel_rfl) : (IsV (.slice A2 n2 c2)) v83 wx)
      subst e83
      have e84 : v84 = _ := (hd _ (.head _) (by kernel_rfl) : (IsV (.slice A3 n3 c3)) v84 wx)
      subst e84
      clear hd
      intro KK hK
      go_simp
      refine (add_in (r2.below hx.out) (r3.below hx.out) (by omega) (by omega)).mono ?_
      rintro e w' ⟨A', n', c', rfl, h', hn', hb'⟩
      exact hK.out _ _ ⟨A', n', c', rfl, h', hn'⟩ hb'
    simp only [Act.put, List.setIfInBounds_toArray, List.set_cons_zero, List.set_cons_succ]
    refine Tab.cons IsPl.lasting (fun wx hx hd => ?_) (fun v86 => ?_)
    · skip
      have e80 : v80 = _ := (hd _ (.tail _ (.tail _ (.tail _ (.tail _ (.tail _ (.head _)))))) (by kernel_rfl) : (IsV (.agg #[])) v80 wx)
      subst e80
      have e81 : v81 = _ := (hd _ (.tail _ (.tail _ (.tail _ (.tail _ (.head _))))) (by kernel_rfl) : (IsV (.slice A1 n1 c1)) v81 wx)
      subst e81
      obtain ⟨A85, n85, c85, rfl, h85, k85⟩ := (hd _ (.head _) (by kernel_rfl) : (IsPl (addP b c) 121 120) v85 wx)
      clear hd
      intro KK hK
      go_simp
      refine (mul_in (r1.below hx.out) (h85.pin k85) (by omega) (by omega) (by omega) (by omega)).mono ?_
      rintro e w' ⟨A', n', c', rfl, h', hn', hb'⟩
      exact hK.out _ _ ⟨A', n', c', rfl, h', hn'⟩ hb'
    simp only [Act.put, List.setIfInBounds_toArray, List.set_cons_zero, List.set_cons_succ]
    refine Tab.cons IsV.lasting (fun wx hx hd => ?_) (fun v87 => ?_)
    · skip
      clear hd
      intro KK hK
      go_simp
      exact hK.out _ _ rfl (Below.refl _ _)
    simp only [Act.put, List.setIfInBounds_toArray, List.set_cons_zero, List.set_cons_succ]
    refine Tab.cons IsV.lasting (fun wx hx hd => ?_) (fun v88 => ?_)
    · skip
      clear hd
      intro KK hK
      go_simp
      exact hK.out _ _ rfl (Below.refl _ _)
    simp only [Act.put, List.setIfInBounds_toArray, List.set_cons_zero, List.set_cons_succ]
    refine Tab.cons IsV.lasting (fun wx hx hd => ?_) (fun v89 => ?_)
    · skip
      clear hd
      intro KK hK
      go_simp
      exact hK.out _ _ rfl (Below.refl _ _)
    simp only [Act.put, List.setIfInBounds_toArray, List.set_cons_zero, List.set_cons_succ]
    refine Tab.cons IsV.lasting (fun wx hx hd => ?_) (fun v90 => ?_)
    · skip
      clear hd
      intro KK hK
      go_simp
      exact hK.out _ _ rfl (Below.refl _ _)
    simp only [Act.put, List.setIfInBounds_toArray, List.set_cons_zero, List.set_cons_succ]
    refine Tab.cons IsPl.lasting (fun wx hx hd => ?_) (fun v91 => ?_)
    · skip
      have e88 : v88 = _ := (hd _ (.tail _ (.tail _ (.head _))) (by kernel_rfl) : (IsV (.agg #[])) v88 wx)
      subst e88
      have e89 : v89 = _ := (hd _ (.tail _ (.head _)) (by kernel_rfl) : (IsV (.slice A1 n1 c1)) v89 wx)
      subst e89
      have e90 : v90 = _ := (hd _ (.head _) (by kernel_rfl) : (IsV (.slice A2 n2 c2)) v90 wx)
      subst e90
      clear hd
      intro KK hK
      go_simp
      refine (mul_in (r1.below hx.out) (r2.below hx.out) (by omega) (by omega) (by omega) (by omega)).mono ?_
      rintro e w' ⟨A', n', c', rfl, h', hn', hb'⟩
      exact hK.out _ _ ⟨A', n', c', rfl, h', hn'⟩ hb'
    simp only [Act.put, List.setIfInBounds_toArray, List.set_cons_zero, List.set_cons_succ]
    refine Tab.cons IsV.lasting (fun wx hx hd => ?_) (fun v92 => ?_)
    · skip
      clear hd
      intro KK hK
      go_simp
      exact hK.out _ _ rfl (Below.refl _ _)
    simp only [Act.put, List.setIfInBounds_toArray, List.set_cons_zero, List.set_cons_succ]
    refine Tab.cons IsV.lasting (fun wx hx hd => ?_) (fun v93 => ?_)
    · skip
      clear hd
      intro KK hK
      go_simp
      exact hK.out _ _ rfl (Below.refl _ _)
    simp only [Act.put, List.setIfInBounds_toArray, List.set_cons_zero, List.set_cons_succ]
    refine Tab.cons IsV.lasting (fun wx hx hd => ?_) (fun v94 => ?_)
    · skip
      clear hd
      intro KK hK
      go_simp
      exact hK.out _ _ rfl (Below.refl _ _)
    simp only [Act.put, List.setIfInBounds_toArray, List.set_cons_zero, List.set_cons_succ]
    refine Tab.cons IsPl.lasting (fun wx hx hd => ?_) (fun v95 => ?_)
    · skip
      have e92 : v92 = _ := (hd _ (.tail _ (.tail _ (.head _))) (by kernel_rfl) : (IsV (.agg #[])) v92 wx)
      subst e92
      have e93 : v93 = _ := (hd _ (.tail _ (.head _)) (by kernel_rfl) : (IsV (.slice A1 n1 c1)) v93 wx)
      subst e93
      have e94 : v94 = _ := (hd _ (.head _) (by kernel_rfl) : (IsV (.slice A3 n3 c3)) v94 wx)
      subst e94
      clear hd
      intro KK hK
      go_simp
      refine (mul_in (r1.below hx.out) (r3.below hx.out) (by omega) (by omega) (by omega) (by omega)).mono ?_
      rintro e w' ⟨A', n', c', rfl, h', hn', hb'⟩
      exact hK.out _ _ ⟨A', n', c', rfl, h', hn'⟩ hb'
    simp only [Act.put, List.setIfInBounds_toArray, List.set_cons_zero, List.set_cons_succ]
    refine Tab.cons IsPl.lasting (fun wx hx hd => ?_) (fun v96 => ?_)
    · skip
      have e87 : v87 = _ := (hd _ (.tail _ (.tail _ (.tail _ (.tail _ (.tail _ (.tail _ (.tail _ (.tail _ (.head _))))))))) (by kernel_rfl) : (IsV (.agg #[])) v87 wx)
      subst e87
      obtain ⟨A91, n91, c91, rfl, h91, k91⟩ := (hd _ (.tail _ (.tail _ (.tail _ (.tail _ (.head _))))) (by kernel_rfl) : (IsPl (mulP a b) 241 240) v91 wx)
      obtain ⟨A95, n95, c95, rfl, h95, k95⟩ := (hd _ (.head _) (by kernel_rfl) : (IsPl (mulP a c) 241 240) v95 wx)
      clear hd
      intro KK hK
      go_simp
      refine (add_in (h91.pin k91) (h95.pin k95) (by omega) (by omega)).mono ?_
      rintro e w' ⟨A', n', c', rfl, h', hn', hb'⟩
      exact hK.out _ _ ⟨A', n', c', rfl, h', hn'⟩ hb'
    simp only [Act.put, List.setIfInBounds_toArray, List.set_cons_zero, List.set_cons_succ]
    refine Tab.cons IsV.lasting (fun wx hx hd => ?_) (fun v97 => ?_)
    · skip
      obtain ⟨A86, n86, c86, rfl, h86, k86⟩ := (hd _ (.tail _ (.tail _ (.tail _ (.tail _ (.tail _ (.tail _ (.tail _ (.tail _ (.tail _ (.tail _ (.head _))))))))))) (by kernel_rfl) : (IsPl (mulP a (addP b c)) 242 240) v86 wx)
      obtain ⟨A96, n96, c96, rfl, h96, k96⟩ := (hd _ (.head _) (by kernel_rfl) : (IsPl (addP (mulP a b) (mulP a c)) 242 240) v96 wx)
      clear hd
      intro KK hK
      go_simp
      refine (psame_yes h86 h96 (mulP_addP a b c)).mono ?_
      rintro e w' ⟨rfl, hb'⟩
      exact hK.out _ _ rfl hb'
    simp only [Act.put, List.setIfInBounds_toArray, List.set_cons_zero, List.set_cons_succ]
    refine Tab.cons IsV.lasting (fun wx hx hd => ?_) (fun v6 => ?_)
    · skip
      have e97 : v97 = _ := (hd _ (.head _) (by kernel_rfl) : (IsV (.bool true)) v97 wx)
      subst e97
      clear hd
      intro KK hK
      go_simp
      exact hK.out _ _ rfl (Below.refl _ _)
    simp only [Act.put, List.setIfInBounds_toArray, List.set_cons_zero, List.set_cons_succ]
    refine Tab.nil fun wx hx hd => ?_
    have e6 : v6 = _ := (hd _ (.head _) : (IsV (.bool true)) v6 wx)
    subst e6
    clear hd
    go_wp2
    go_ret
    exact ⟨by rfl, below_step hx.out hB⟩

end Go.Proofs.Ytonimfogmplgdaa
