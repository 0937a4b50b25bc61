/- The walk of the law SemiringShortest. -/
import Derived.Test.YtjadgomakoaibaaRefBwdInt
import Derived.Test.YtjadgomakoaibaaBwdInt
import Derived.Test.YtjadgomakoaibaaFew
import Derived.Outline
namespace Go.Proofs.Ytjadgomakoaibaa
open Go.RowKit
/-- What reads as rows of costs. -/
def IsG (R : List (List Int)) (v : Value) (w : World) : Prop := ∃ A n c, v = .slice A n c ∧ RdR costC 0 w 1 A n c R
theorem IsG.lasting {R : List (List Int)} : ∀ v w w', Below w.heap.size w w' → IsG R v w → IsG R v w' := fun _ _ _ hb ⟨A, n, c, h1, h2⟩ => ⟨A, n, c, h1, h2.below hb⟩
/-- The box of a layered graph with numbers. -/
theorem boxG (w : World) (AW : Option Addr) (nW cW : Nat) (AE : Option Addr) (nE cE : Nat) (A : Option Addr) (n c : Nat) :
    ∃ W0, W0 = w.alloc (.cells #[.slice AW nW cW, .slice AE nE cE, .slice A n c] 28) ∧ Below w.heap.size w W0 ∧ w.heap.size < W0.heap.size ∧
      W0.cell? ⟨w.heap.size, 0, none⟩ = some (.slice AW nW cW) ∧ W0.cell? ⟨w.heap.size, 1, none⟩ = some (.slice AE nE cE) ∧ W0.cell? ⟨w.heap.size, 2, none⟩ = some (.slice A n c) :=
  ⟨_, rfl, below_alloc w _, by simp, by rw [cell_of_row _ _ _ _ _ _ (heap_alloc_new w _)]; rfl, by rw [cell_of_row _ _ _ _ _ _ (heap_alloc_new w _)]; rfl, by rw [cell_of_row _ _ _ _ _ _ (heap_alloc_new w _)]; rfl⟩

set_option maxHeartbeats 4000000 in
set_option maxRecDepth 10000 in
theorem law_SemiringShortest (w : World) (AW : Option Addr) (nW cW : Nat) (Ws : List Int) (AE : Option Addr) (nE cE : Nat) (ee : List (List EdgeT)) (hW : RdI w AW nW cW Ws) (hE : RdEE w AE nE cE ee)
    (A : Option Addr) (n c : Nat) (V : List (List Int)) (hV : RdR intC 0 w 1 A n c V) (hn : n ≤ 35184372088832) :
    Calls Try.prog 5 #[.agg #[.slice AW nW cW, .slice AE nE cE, .slice A n c]] w (Makes (.bool true) w) := by
  obtain ⟨W0, hW0, hS, hz, hc0, hc1, hc2⟩ := boxG w AW nW cW AE nE cE A n c
  have h1 := hW.below hS
  have h2 := hE.below hS
  have h3 := hV.below hS
  have HW := hide hW0
  have HC := hide (And.intro hc0 (And.intro hc1 hc2))
  have HZ := hide hz
  have hcells : ∀ w', Below W0.heap.size W0 w' → w'.cell? ⟨w.heap.size, 0, none⟩ = some (.slice AW nW cW) ∧ w'.cell? ⟨w.heap.size, 1, none⟩ = some (.slice AE nE cE) ∧ w'.cell? ⟨w.heap.size, 2, none⟩ = some (.slice A n c) := fun w' hb =>
    ⟨(hb.cell (p := ⟨w.heap.size, 0, none⟩) hz).trans hc0, (hb.cell (p := ⟨w.heap.size, 1, none⟩) hz).trans hc1, (hb.cell (p := ⟨w.heap.size, 2, none⟩) hz).trans hc2⟩
  have HCELLS := hide hcells
  clear hW0 hc0 hc1 hc2 hz hW hE hV hcells
  go_enter Try.func5, Try.ntmps5
  go_upto_region 1 with (fail)
  rw [← HW.out]
  go_wp2_with fail
  refine (alive_any _).mono ?_
  rintro e w1 ⟨rfl, hb1⟩
  obtain ⟨hc0, hc1, hc2⟩ := HCELLS.out w1 hb1
  go_wp2_with fail
  refine (few_any w1 AW nW cW Ws AE nE cE ee (h1.below hb1) (h2.below hb1) A n c _ (h3.below hb1).lens hn 2000 (by omega)).mono ?_
  rintro e w2 ⟨q, rfl, hb2⟩
  have hB := hb1.trans (hb2.mono hb1.size)
  clear hc0 hc1 hc2 hb1 hb2
  cases q with
  | false =>
    go_wp2
    go_ret
    exact ⟨rfl, below_step hB hS⟩
  | true =>
    obtain ⟨hc0, hc1, hc2⟩ := HCELLS.out w2 hB
    by_cases hf : fitsV Ws ee (V.map List.length) = 0
    · go_wp2_with fail
      refine (forward_int w2 AW nW cW Ws AE nE cE ee (h1.below hB) (h2.below hB) A n c V (h3.below hB) hf).mono ?_
      rintro e w3 ⟨Gf, nf, cf, vsf, rfl, hGf, hb3⟩
      replace hB := hB.trans (hb3.mono hB.size)
      clear hc0 hc1 hc2
      obtain ⟨hc0, hc1, hc2⟩ := HCELLS.out w3 hB
      go_wp2_with fail
      refine (backward_int w3 AW nW cW Ws AE nE cE ee (h1.below hB) (h2.below hB) A n c V (h3.below hB) hf).mono ?_
      rintro e w4 ⟨Gb, nb, cb, vsb, rfl, hGb, hb4⟩
      replace hB := hB.trans (hb4.mono hB.size)
      have hrF := hGf.rd.below hb4
      have hrB := hGb.rd
      clear hc0 hc1 hc2 hGf hGb hb3 hb4
      obtain ⟨hc0, hc1, hc2⟩ := HCELLS.out w4 hB
      obtain ⟨W, hWd⟩ : ∃ W : World, W = w4 := ⟨_, rfl⟩
      subst hWd
      have C0 := hide (stays hc0)
      have C1 := hide (stays hc1)
      have C2 := hide (stays hc2)
      clear hc0 hc1 hc2
      go_wp2_with fail
      have HF := hide hf
      clear hf
      refine wp_region_tab 7 71 [IsV (.pointer (some ⟨w.heap.size, 0, none⟩)), IsV (.agg #[.slice AW nW cW, .slice AE nE cE]), IsV (.pointer (some ⟨w.heap.size, 2, none⟩)), IsV (.slice A n c), IsI (natI (V.map List.length)), IsV (.int .i64 0), IsV (.int .i64 0)] (From W) (by kernel_rfl) (by kernel_rfl) (by kernel_rfl) rfl From.lasts (From.drew (From.refl W)) ?_
      simp only [List.take_succ_cons, List.drop_succ_cons, List.take_nil, List.drop_nil]
      refine Tab.cons IsV.lasting (fun wx hx hd => ?_) (fun v31 => ?_)
      · skip
        clear hd
        intro KK hK
        go_simp
        exact hK.out _ _ rfl (Below.refl _ _)
      simp only [Act.put, List.setIfInBounds_toArray, List.set_cons_zero, List.set_cons_succ]
      refine Tab.cons IsV.lasting (fun wx hx hd => ?_) (fun v32 => ?_)
      · skip
        have e31 : v31 = _ := (hd _ (.head _) (by kernel_rfl) : (IsV (.pointer (some ⟨w.heap.size, 0, none⟩))) v31 wx)
        subst e31
        clear hd
        intro KK hK
        have hcell0 := C0.out _ hx
        have hcell1 := C1.out _ hx
        go_simp
        exact hK.out _ _ rfl (Below.refl _ _)
      simp only [Act.put, List.setIfInBounds_toArray, List.set_cons_zero, List.set_cons_succ]
      refine Tab.cons IsV.lasting (fun wx hx hd => ?_) (fun v33 => ?_)
      · skip
        clear hd
        intro KK hK
        go_simp
        exact hK.out _ _ rfl (Below.refl _ _)
      simp only [Act.put, List.setIfInBounds_toArray, List.set_cons_zero, List.set_cons_succ]
      refine Tab.cons IsV.lasting (fun wx hx hd => ?_) (fun v34 => ?_)
      · skip
        have e33 : v33 = _ := (hd _ (.head _) (by kernel_rfl) : (IsV (.pointer (some ⟨w.heap.size, 2, none⟩))) v33 wx)
        subst e33
        clear hd
        intro KK hK
        have hcell0 := C2.out _ hx
        go_simp
        exact hK.out _ _ rfl (Below.refl _ _)
      simp only [Act.put, List.setIfInBounds_toArray, List.set_cons_zero, List.set_cons_succ]
      refine Tab.cons IsI.lasting (fun wx hx hd => ?_) (fun v35 => ?_)
      · skip
        have e34 : v34 = _ := (hd _ (.head _) (by kernel_rfl) : (IsV (.slice A n c)) v34 wx)
        subst e34
        clear hd
        intro KK hK
        go_simp
        refine (counts_any _ A n c _ (h3.below (hB.trans (hx.out.mono hB.size))).lens hn).mono ?_
        rintro e w' ⟨A', n', c', rfl, h', hb'⟩
        exact hK.out _ _ ⟨A', n', c', rfl, h'⟩ hb'
      simp only [Act.put, List.setIfInBounds_toArray, List.set_cons_zero, List.set_cons_succ]
      refine Tab.cons IsV.lasting (fun wx hx hd => ?_) (fun v36 => ?_)
      · skip
        have e32 : v32 = _ := (hd _ (.tail _ (.tail _ (.tail _ (.head _)))) (by kernel_rfl) : (IsV (.agg #[.slice AW nW cW, .slice AE nE cE])) v32 wx)
        subst e32
        obtain ⟨A35, n35, c35, rfl, h35⟩ := (hd _ (.head _) (by kernel_rfl) : (IsI (natI (V.map List.length))) v35 wx)
        clear hd
        intro KK hK
        go_simp
        have hct := fits_any _ AW nW cW Ws AE nE cE ee (h1.below (hB.trans (hx.out.mono hB.size))) (h2.below (hB.trans (hx.out.mono hB.size))) _ _ _ _ h35
        rw [HF.out] at hct
        refine hct.mono ?_
        rintro e w' ⟨rfl, hb'⟩
        exact hK.out _ _ rfl hb'
      simp only [Act.put, List.setIfInBounds_toArray, List.set_cons_zero, List.set_cons_succ]
      refine Tab.cons IsV.lasting (fun wx hx hd => ?_) (fun v7 => ?_)
      · skip
        have e36 : v36 = _ := (hd _ (.head _) (by kernel_rfl) : (IsV (.int .i64 0)) v36 wx)
        subst e36
        clear hd
        intro KK hK
        go_simp
        exact hK.out _ _ rfl (Below.refl _ _)
      simp only [Act.put, List.setIfInBounds_toArray, List.set_cons_zero, List.set_cons_succ]
      refine Tab.nil fun wx hx hd => ?_
      have e7 : v7 = _ := (hd _ (.head _) : (IsV (.int .i64 0)) v7 wx)
      subst e7
      clear hd
      replace hx := hx.out
      have hB9 := hB.trans (hx.mono hB.size)
      clear hB
      obtain ⟨hc0, hc1, hc2⟩ := HCELLS.out _ hB9
      go_wp2_with fail
      refine (rforward_int _ AW nW cW Ws AE nE cE ee (h1.below hB9) (h2.below hB9) A n c V (h3.below hB9) HF.out).mono ?_
      rintro e w6 ⟨G6, n6, c6, vs6, rfl, hG6, hb6⟩
      clear hc0 hc1 hc2
      go_wp2_with fail
      refine (sameInts_yes _ _ _ _ _ _ _ _ ((hrF.below hx).below hb6) hG6.rd).mono ?_
      rintro e w7 ⟨rfl, hb7⟩
      have hB7 := hB9.trans ((below_step hb7 hb6).mono hB9.size)
      obtain ⟨hc0, hc1, hc2⟩ := HCELLS.out _ hB7
      clear hG6
      go_wp2_with fail
      refine (rbackward_int _ AW nW cW Ws AE nE cE ee (h1.below hB7) (h2.below hB7) A n c V (h3.below hB7) HF.out).mono ?_
      rintro e w8 ⟨G8, n8, c8, vs8, rfl, hG8, hb8⟩
      clear hc0 hc1 hc2
      go_wp2_with fail
      refine (sameInts_yes _ _ _ _ _ _ _ _ ((hrB.below hx).below (below_step hb8 (below_step hb7 hb6))) hG8.rd).mono ?_
      rintro e w9 ⟨rfl, hb9⟩
      go_wp2
      go_ret
      exact ⟨rfl, below_step (hB7.trans ((below_step hb9 hb8).mono hB7.size)) hS⟩
    · obtain ⟨z, hz⟩ : ∃ z, fitsV Ws ee (V.map List.length) = z := ⟨_, rfl⟩
      have hno1 := forward_int_no w2 AW nW cW Ws AE nE cE ee (h1.below hB) (h2.below hB) A n c _ (h3.below hB).lens hf
      have hno2 := fun (w' : World) (hb : Below W0.heap.size W0 w') => backward_int_no w' AW nW cW Ws AE nE cE ee (h1.below hb) (h2.below hb) A n c _ (h3.below hb).lens hf
      rw [hz] at hf hno1
      simp only [hz] at hno2
      have HF := hide hz
      have HNO1 := hide hno1
      have HNO2 := hide hno2
      have hz0 : (z != 0) = true := by simpa using hf
      clear hz hno1 hno2 hf
      go_wp2_with fail
      refine HNO1.out.mono ?_
      rintro e w3 ⟨rfl, hb3⟩
      replace hB := hB.trans (hb3.mono hB.size)
      clear hc0 hc1 hc2
      obtain ⟨hc0, hc1, hc2⟩ := HCELLS.out w3 hB
      go_wp2_with fail
      refine (HNO2.out w3 hB).mono ?_
      rintro e w4 ⟨rfl, hb4⟩
      replace hB := hB.trans (hb4.mono hB.size)
      clear hc0 hc1 hc2 hb3 hb4
      obtain ⟨hc0, hc1, hc2⟩ := HCELLS.out w4 hB
      obtain ⟨W, hWd⟩ : ∃ W : World, W = w4 := ⟨_, rfl⟩
      subst hWd
      have C0 := hide (stays hc0)
      have C1 := hide (stays hc1)
      have C2 := hide (stays hc2)
      clear hc0 hc1 hc2
      go_wp2_with fail
      refine wp_region_tab 7 71 [IsV (.pointer (some ⟨w.heap.size, 0, none⟩)), IsV (.agg #[.slice AW nW cW, .slice AE nE cE]), IsV (.pointer (some ⟨w.heap.size, 2, none⟩)), IsV (.slice A n c), IsI (natI (V.map List.length)), IsV (.int .i64 z), IsV (.int .i64 z)] (From W) (by kernel_rfl) (by kernel_rfl) (by kernel_rfl) rfl From.lasts (From.drew (From.refl W)) ?_
      simp only [List.take_succ_cons, List.drop_succ_cons, List.take_nil, List.drop_nil]
      refine Tab.cons IsV.lasting (fun wx hx hd => ?_) (fun v31 => ?_)
      · skip
        clear hd
        intro KK hK
        go_simp
        exact hK.out _ _ rfl (Below.refl _ _)
      simp only [Act.put, List.setIfInBounds_toArray, List.set_cons_zero, List.set_cons_succ]
      refine Tab.cons IsV.lasting (fun wx hx hd => ?_) (fun v32 => ?_)
      · skip
        have e31 : v31 = _ := (hd _ (.head _) (by kernel_rfl) : (IsV (.pointer (some ⟨w.heap.size, 0, none⟩))) v31 wx)
        subst e31
        clear hd
        intro KK hK
        have hcell0 := C0.out _ hx
        have hcell1 := C1.out _ hx
        go_simp
        exact hK.out _ _ rfl (Below.refl _ _)
      simp only [Act.put, List.setIfInBounds_toArray, List.set_cons_zero, List.set_cons_succ]
      refine Tab.cons IsV.lasting (fun wx hx hd => ?_) (fun v33 => ?_)
      · skip
        clear hd
        intro KK hK
        go_simp
        exact hK.out _ _ rfl (Below.refl _ _)
      simp only [Act.put, List.setIfInBounds_toArray, List.set_cons_zero, List.set_cons_succ]
      refine Tab.cons IsV.lasting (fun wx hx hd => ?_) (fun v34 => ?_)
      · skip
        have e33 : v33 = _ := (hd _ (.head _) (by kernel_rfl) : (IsV (.pointer (some ⟨w.heap.size, 2, none⟩))) v33 wx)
        subst e33
        clear hd
        intro KK hK
        have hcell0 := C2.out _ hx
        go_simp
        exact hK.out _ _ rfl (Below.refl _ _)
      simp only [Act.put, List.setIfInBounds_toArray, List.set_cons_zero, List.set_cons_succ]
      refine Tab.cons IsI.lasting (fun wx hx hd => ?_) (fun v35 => ?_)
      · skip
        have e34 : v34 = _ := (hd _ (.head _) (by kernel_rfl) : (IsV (.slice A n c)) v34 wx)
        subst e34
        clear hd
        intro KK hK
        go_simp
        refine (counts_any _ A n c _ (h3.below (hB.trans (hx.out.mono hB.size))).lens hn).mono ?_
        rintro e w' ⟨A', n', c', rfl, h', hb'⟩
        exact hK.out _ _ ⟨A', n', c', rfl, h'⟩ hb'
      simp only [Act.put, List.setIfInBounds_toArray, List.set_cons_zero, List.set_cons_succ]
      refine Tab.cons IsV.lasting (fun wx hx hd => ?_) (fun v36 => ?_)
      · skip
        have e32 : v32 = _ := (hd _ (.tail _ (.tail _ (.tail _ (.head _)))) (by kernel_rfl) : (IsV (.agg #[.slice AW nW cW, .slice AE nE cE])) v32 wx)
        subst e32
        obtain ⟨A35, n35, c35, rfl, h35⟩ := (hd _ (.head _) (by kernel_rfl) : (IsI (natI (V.map List.length))) v35 wx)
        clear hd
        intro KK hK
        go_simp
        have hct := fits_any _ AW nW cW Ws AE nE cE ee (h1.below (hB.trans (hx.out.mono hB.size))) (h2.below (hB.trans (hx.out.mono hB.size))) _ _ _ _ h35
        rw [HF.out] at hct
        refine hct.mono ?_
        rintro e w' ⟨rfl, hb'⟩
        exact hK.out _ _ rfl hb'
      simp only [Act.put, List.setIfInBounds_toArray, List.set_cons_zero, List.set_cons_succ]
      refine Tab.cons IsV.lasting (fun wx hx hd => ?_) (fun v7 => ?_)
      · skip
        have e36 : v36 = _ := (hd _ (.head _) (by kernel_rfl) : (IsV (.int .i64 z)) v36 wx)
        subst e36
        clear hd
        intro KK hK
        go_simp
        exact hK.out _ _ rfl (Below.refl _ _)
      simp only [Act.put, List.setIfInBounds_toArray, List.set_cons_zero, List.set_cons_succ]
      refine Tab.nil fun wx hx hd => ?_
      have e7 : v7 = _ := (hd _ (.head _) : (IsV (.int .i64 z)) v7 wx)
      subst e7
      clear hd
      replace hx := hx.out
      have hB9 := hB.trans (hx.mono hB.size)
      clear hB
      obtain ⟨hc0, hc1, hc2⟩ := HCELLS.out _ hB9
      skip
      go_wp2
      go_ret
      exact ⟨rfl, below_step hB9 hS⟩
end Go.Proofs.Ytjadgomakoaibaa
