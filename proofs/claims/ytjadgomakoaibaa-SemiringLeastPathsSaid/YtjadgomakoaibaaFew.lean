/- The walk of few: whether a layered graph is small enough to be looked at. -/
import Derived.Test.YtjadgomakoaibaaFits
import Derived.Test.YtjadgomakoaibaaMono
namespace Go.Proofs.Ytjadgomakoaibaa
open Go.RowKit

/-- A call that returns some bool and makes memory alone. -/
def RetSome (w : World) (x : Ending) (w' : World) : Prop := ∃ q : Bool, x = .returned (.bool q) ∧ Below w.heap.size w w'

set_option maxHeartbeats 4000000 in
theorem few_any (w : World) (AW : Option Addr) (nW cW : Nat) (W : List Int) (AE : Option Addr) (nE cE : Nat) (ee : List (List EdgeT)) (hW : RdI w AW nW cW W) (hE : RdEE w AE nE cE ee)
    (A : Option Addr) (n c : Nat) (lens : List Nat) (hL : RdLens w A n c lens) (hn : n ≤ 35184372088832) (most : Nat) (hmost : most ≤ 2000) :
    Calls Try.prog 8 #[.agg #[.slice AW nW cW, .slice AE nE cE, .slice A n c], .int .i64 (most : Int)] w (RetSome w) := by
  obtain ⟨W0, hW0⟩ : ∃ W0, W0 = w.alloc (.cells #[.slice AW nW cW, .slice AE nE cE, .slice A n c] 28) := ⟨_, rfl⟩
  have hS : Below w.heap.size w W0 := by rw [hW0]; exact below_alloc w _
  have hc0 : W0.cell? ⟨w.heap.size, 0, none⟩ = some (.slice AW nW cW) := by rw [hW0, cell_of_row _ _ _ _ _ _ (heap_alloc_new w _)]; rfl
  have hc1 : W0.cell? ⟨w.heap.size, 1, none⟩ = some (.slice AE nE cE) := by rw [hW0, cell_of_row _ _ _ _ _ _ (heap_alloc_new w _)]; rfl
  have hc2 : W0.cell? ⟨w.heap.size, 2, none⟩ = some (.slice A n c) := by rw [hW0, cell_of_row _ _ _ _ _ _ (heap_alloc_new w _)]; rfl
  have hz : w.heap.size < W0.heap.size := by rw [hW0]; simp
  have h1 := hW.below hS
  have h2 := hE.below hS
  have h3 := hL.below hS
  have HW := hide hW0
  have HZ := hide hz
  have HC0 := hide hc0
  have HC1 := hide hc1
  have HC2 := hide hc2
  have hE63 := hE.le63
  have hW63 := hW.le63
  clear hW0 hW hE hL
  go_enter Try.func8, Try.ntmps8
  go_wp2_with fail
  rw [← HW.out]
  go_loop [5, 6] (fun nv iv => ∃ i v : Nat, i ≤ nE ∧ i ≤ 100 ∧ iv = .int .i64 (i : Int) ∧ nv = .int .i64 (v : Int) ∧ v ≤ i * 2001) (fun _ iv => nE - (intOf iv).toNat)
  case atStart => exact ⟨0, 0, Nat.zero_le _, by omega, rfl, rfl, by omega⟩
  case round =>
    obtain ⟨i, v, hi, hi2, rfl, rfl, hv⟩ := hrel
    by_cases hlt : i < nE ∧ i < 100
    · obtain ⟨hlt, hlt2⟩ := hlt
      obtain ⟨b, off, rfl, hb, hcells⟩ := h2.cells (by omega)
      obtain ⟨Aj, nj, cj, hcell, hrd⟩ := hcells i hlt
      have hnj63 := hrd.le63
      clear hcells hrd
      have hd1 : decide ((i : Int) < (nE : Int)) = true := decide_eq_true (by omega)
      have hd2 : decide ((i : Int) < 100) = true := decide_eq_true (by omega)
      by_cases hq : nj ≤ most + 1
      · have hmin : min (nj : Int) ((most : Int) + 1) = (nj : Int) := by omega
        go_wp2
        go_round
        case rel => exact ⟨i + 1, v + nj, by omega, by omega, by go_num, by go_num, by omega⟩
        case measure => simp [intOf]; omega
      · have hmin : min (nj : Int) ((most : Int) + 1) = (most : Int) + 1 := by omega
        go_wp2
        go_round
        case rel => exact ⟨i + 1, v + (most + 1), by omega, by omega, by go_num, by go_num, by omega⟩
        case measure => simp [intOf]; omega
    · have hv2 : v ≤ 200100 := by omega
      have hnot : (nE : Int) ≤ (i : Int) ∨ (100 : Int) ≤ (i : Int) := by omega
      clear hv hlt
      by_cases hl0 : i < nE
      · have hd1 : decide ((i : Int) < (nE : Int)) = true := decide_eq_true (by omega)
        have hd2 : decide ((i : Int) < 100) = false := decide_eq_false (by omega)
        have hd3 : ¬ (i : Int) < 100 := by omega
        clear hnot
        go_wp2_with fail
        clear hd1 hd2 hd3 hl0
        go_loop [7, 8] (fun nv iv => ∃ i2 v2 : Nat, i2 ≤ nW ∧ i2 ≤ 100 ∧ iv = .int .i64 (i2 : Int) ∧ nv = .int .i64 (v2 : Int) ∧ v2 ≤ i2 * 8001) (fun _ iv => nW - (intOf iv).toNat)
        case atStart => exact ⟨0, 0, Nat.zero_le _, by omega, rfl, rfl, by omega⟩
        case round =>
          obtain ⟨i2, v2, hi3, hi4, rfl, rfl, hv2⟩ := hrel
          by_cases hlt : i2 < nW ∧ i2 < 100
          · obtain ⟨hlt, hlt2⟩ := hlt
            obtain ⟨b, off, rfl, hb, hcell⟩ := h1.at hlt
            have hbd := h1.bd i2
            generalize W.getD i2 0 = z at *
            have hd1 : decide ((i2 : Int) < (nW : Int)) = true := decide_eq_true (by omega)
            have hd2 : decide ((i2 : Int) < 100) = true := decide_eq_true (by omega)
            have hu : ∃ (y : Int) (u : Nat), min z (4 * (most : Int) + 1) = y ∧ max 0 y = (u : Int) ∧ u ≤ 8001 := ⟨_, (max 0 (min z (4 * (most : Int) + 1))).toNat, rfl, by omega, by omega⟩
            obtain ⟨y, u, hmin, hmax, hu⟩ := hu
            go_wp2
            go_round
            case rel => exact ⟨i2 + 1, v2 + u, by omega, by omega, by go_num, by go_num, by omega⟩
            case measure => simp [intOf]; omega
          · have hv3 : v2 ≤ 800100 := by omega
            have hnot2 : (nW : Int) ≤ (i2 : Int) ∨ (100 : Int) ≤ (i2 : Int) := by omega
            clear hv2 hlt
            by_cases hl1 : i2 < nW
            · have hd1 : decide ((i2 : Int) < (nW : Int)) = true := decide_eq_true (by omega)
              have hd2 : decide ((i2 : Int) < 100) = false := decide_eq_false (by omega)
              have hd3 : ¬ (i2 : Int) < 100 := by omega
              clear hnot2
              go_wp2_with fail
              clear hd1 hd2 hd3 hl1
              by_cases hA : v ≤ most
              · by_cases hB : v2 ≤ 4 * most
                · have ha : decide ((v : Int) ≤ (most : Int)) = true := decide_eq_true (by omega)
                  have hb : decide ((v2 : Int) ≤ 4 * (most : Int)) = true := decide_eq_true (by omega)
                  go_quiet (fail)
                  clear ha hb
                  go_wp2
                  go_ret
                  exact ⟨_, rfl, below_drewN hS _⟩
                · have ha : decide ((v : Int) ≤ (most : Int)) = true := decide_eq_true (by omega)
                  have hb : decide ((v2 : Int) ≤ 4 * (most : Int)) = false := decide_eq_false (by omega)
                  refine wp_region_tab 19 76 [IsV (.int .i64 (v : Int)), IsV (.int .i64 (most : Int)), IsV (.bool true), IsV (.bool true), IsV (.int .i64 (v2 : Int)), IsV (.int .i64 (most : Int)), IsV (.int .i64 (4 * (most : Int))), IsV (.bool false), IsV (.bool false), IsV (.bool false), IsV (.pointer (some ⟨w.heap.size, 0, none⟩)), IsV (.agg #[.slice AW nW cW, .slice AE nE cE]), IsV (.pointer (some ⟨w.heap.size, 2, none⟩)), IsV (.slice A n c), IsI (natI lens), IsV (.int .i64 (fitsV W ee lens)), IsV (.bool (fitsV W ee lens != 0)), IsV (.bool (fitsV W ee lens != 0)), IsV (.bool (fitsV W ee lens != 0))] (From W0) (by kernel_rfl) (by kernel_rfl) (by kernel_rfl) rfl From.lasts (From.drew (From.refl W0)) ?_
                  simp only [List.take_succ_cons, List.drop_succ_cons, List.take_nil, List.drop_nil]
                  refine Tab.cons IsV.lasting (fun wx hx hd => ?_) (fun v58 => ?_)
                  · skip
                    clear hd
                    intro KK hK
                    go_simp
                    exact hK.out _ _ rfl (Below.refl _ _)
                  simp only [Act.put, List.setIfInBounds_toArray, List.set_cons_zero, List.set_cons_succ]
                  refine Tab.cons IsV.lasting (fun wx hx hd => ?_) (fun v59 => ?_)
                  · skip
                    clear hd
                    intro KK hK
                    go_simp
                    exact hK.out _ _ rfl (Below.refl _ _)
                  simp only [Act.put, List.setIfInBounds_toArray, List.set_cons_zero, List.set_cons_succ]
                  refine Tab.cons IsV.lasting (fun wx hx hd => ?_) (fun v60 => ?_)
                  · skip
                    have e58 : v58 = _ := (hd _ (.tail _ (.head _)) (by kernel_rfl) : (IsV (.int .i64 (v : Int))) v58 wx)
                    subst e58
                    have e59 : v59 = _ := (hd _ (.head _) (by kernel_rfl) : (IsV (.int .i64 (most : Int))) v59 wx)
                    subst e59
                    clear hd
                    intro KK hK
                    go_simp
                    exact hK.out _ _ rfl (Below.refl _ _)
                  simp only [Act.put, List.setIfInBounds_toArray, List.set_cons_zero, List.set_cons_succ]
                  refine Tab.cons IsV.lasting (fun wx hx hd => ?_) (fun v61 => ?_)
                  · skip
                    have e60 : v60 = _ := (hd _ (.head _) (by kernel_rfl) : (IsV (.bool true)) v60 wx)
                    subst e60
                    clear hd
                    intro KK hK
                    go_simp
                    exact hK.out _ _ rfl (Below.refl _ _)
                  simp only [Act.put, List.setIfInBounds_toArray, List.set_cons_zero, List.set_cons_succ]
                  refine Tab.cons IsV.lasting (fun wx hx hd => ?_) (fun v62 => ?_)
                  · skip
                    have e61 : v61 = _ := (hd _ (.head _) (by kernel_rfl) : (IsV (.bool true)) v61 wx)
                    subst e61
                    clear hd
                    intro KK hK
                    go_simp
                    exact hK.out _ _ rfl (Below.refl _ _)
                  simp only [Act.put, List.setIfInBounds_toArray, List.set_cons_zero, List.set_cons_succ]
                  refine Tab.cons IsV.lasting (fun wx hx hd => ?_) (fun v63 => ?_)
                  · skip
                    have e61 : v61 = _ := (hd _ (.tail _ (.head _)) (by kernel_rfl) : (IsV (.bool true)) v61 wx)
                    subst e61
                    clear hd
                    intro KK hK
                    go_simp
                    exact hK.out _ _ rfl (Below.refl _ _)
                  simp only [Act.put, List.setIfInBounds_toArray, List.set_cons_zero, List.set_cons_succ]
                  refine Tab.cons IsV.lasting (fun wx hx hd => ?_) (fun v64 => ?_)
                  · skip
                    have e61 : v61 = _ := (hd _ (.tail _ (.tail _ (.head _))) (by kernel_rfl) : (IsV (.bool true)) v61 wx)
                    subst e61
                    have e63 : v63 = _ := (hd _ (.head _) (by kernel_rfl) : (IsV (.int .i64 (most : Int))) v63 wx)
                    subst e63
                    clear hd
                    intro KK hK
                    go_simp
                    rw [show IntKind.i64.wrap (4 * (most : Int)) = 4 * (most : Int) from IntWalk.i64_in _ (by omega)]
                    exact hK.out _ _ rfl (Below.refl _ _)
                  simp only [Act.put, List.setIfInBounds_toArray, List.set_cons_zero, List.set_cons_succ]
                  refine Tab.cons IsV.lasting (fun wx hx hd => ?_) (fun v65 => ?_)
                  · skip
                    have e61 : v61 = _ := (hd _ (.tail _ (.tail _ (.tail _ (.head _)))) (by kernel_rfl) : (IsV (.bool true)) v61 wx)
                    subst e61
                    have e62 : v62 = _ := (hd _ (.tail _ (.tail _ (.head _))) (by kernel_rfl) : (IsV (.int .i64 (v2 : Int))) v62 wx)
                    subst e62
                    have e64 : v64 = _ := (hd _ (.head _) (by kernel_rfl) : (IsV (.int .i64 (4 * (most : Int)))) v64 wx)
                    subst e64
                    clear hd
                    intro KK hK
                    go_simp
                    exact hK.out _ _ rfl (Below.refl _ _)
                  simp only [Act.put, List.setIfInBounds_toArray, List.set_cons_zero, List.set_cons_succ]
                  refine Tab.cons IsV.lasting (fun wx hx hd => ?_) (fun v66 => ?_)
                  · skip
                    have e61 : v61 = _ := (hd _ (.tail _ (.tail _ (.tail _ (.tail _ (.head _))))) (by kernel_rfl) : (IsV (.bool true)) v61 wx)
                    subst e61
                    have e65 : v65 = _ := (hd _ (.head _) (by kernel_rfl) : (IsV (.bool false)) v65 wx)
                    subst e65
                    clear hd
                    intro KK hK
                    go_simp
                    exact hK.out _ _ rfl (Below.refl _ _)
                  simp only [Act.put, List.setIfInBounds_toArray, List.set_cons_zero, List.set_cons_succ]
                  refine Tab.cons IsV.lasting (fun wx hx hd => ?_) (fun v67 => ?_)
                  · skip
                    have e66 : v66 = _ := (hd _ (.head _) (by kernel_rfl) : (IsV (.bool false)) v66 wx)
                    subst e66
                    clear hd
                    intro KK hK
                    go_simp
                    exact hK.out _ _ rfl (Below.refl _ _)
                  simp only [Act.put, List.setIfInBounds_toArray, List.set_cons_zero, List.set_cons_succ]
                  refine Tab.cons IsV.lasting (fun wx hx hd => ?_) (fun v68 => ?_)
                  · skip
                    have e67 : v67 = _ := (hd _ (.head _) (by kernel_rfl) : (IsV (.bool false)) v67 wx)
                    subst e67
                    clear hd
                    intro KK hK
                    go_simp
                    exact hK.out _ _ rfl (Below.refl _ _)
                  simp only [Act.put, List.setIfInBounds_toArray, List.set_cons_zero, List.set_cons_succ]
                  refine Tab.cons IsV.lasting (fun wx hx hd => ?_) (fun v69 => ?_)
                  · skip
                    have e67 : v67 = _ := (hd _ (.tail _ (.head _)) (by kernel_rfl) : (IsV (.bool false)) v67 wx)
                    subst e67
                    have e68 : v68 = _ := (hd _ (.head _) (by kernel_rfl) : (IsV (.pointer (some ⟨w.heap.size, 0, none⟩))) v68 wx)
                    subst e68
                    clear hd
                    intro KK hK
                    have hcell0 := (hx.out.cell (p := ⟨w.heap.size, 0, none⟩) HZ.out).trans HC0.out
                    have hcell1 := (hx.out.cell (p := ⟨w.heap.size, 1, none⟩) HZ.out).trans HC1.out
                    go_simp
                    exact hK.out _ _ rfl (Below.refl _ _)
                  simp only [Act.put, List.setIfInBounds_toArray, List.set_cons_zero, List.set_cons_succ]
                  refine Tab.cons IsV.lasting (fun wx hx hd => ?_) (fun v70 => ?_)
                  · skip
                    have e67 : v67 = _ := (hd _ (.tail _ (.tail _ (.head _))) (by kernel_rfl) : (IsV (.bool false)) v67 wx)
                    subst e67
                    clear hd
                    intro KK hK
                    go_simp
                    exact hK.out _ _ rfl (Below.refl _ _)
                  simp only [Act.put, List.setIfInBounds_toArray, List.set_cons_zero, List.set_cons_succ]
                  refine Tab.cons IsV.lasting (fun wx hx hd => ?_) (fun v71 => ?_)
                  · skip
                    have e67 : v67 = _ := (hd _ (.tail _ (.tail _ (.tail _ (.head _)))) (by kernel_rfl) : (IsV (.bool false)) v67 wx)
                    subst e67
                    have e70 : v70 = _ := (hd _ (.head _) (by kernel_rfl) : (IsV (.pointer (some ⟨w.heap.size, 2, none⟩))) v70 wx)
                    subst e70
                    clear hd
                    intro KK hK
                    have hcell2 := (hx.out.cell (p := ⟨w.heap.size, 2, none⟩) HZ.out).trans HC2.out
                    go_simp
                    exact hK.out _ _ rfl (Below.refl _ _)
                  simp only [Act.put, List.setIfInBounds_toArray, List.set_cons_zero, List.set_cons_succ]
                  refine Tab.cons IsI.lasting (fun wx hx hd => ?_) (fun v72 => ?_)
                  · skip
                    have e67 : v67 = _ := (hd _ (.tail _ (.tail _ (.tail _ (.tail _ (.head _))))) (by kernel_rfl) : (IsV (.bool false)) v67 wx)
                    subst e67
                    have e71 : v71 = _ := (hd _ (.head _) (by kernel_rfl) : (IsV (.slice A n c)) v71 wx)
                    subst e71
                    clear hd
                    intro KK hK
                    go_simp
                    refine (counts_any _ A n c lens (h3.below hx.out) hn).mono ?_
                    rintro e w' ⟨A', n', c', rfl, h', hb'⟩
                    exact hK.out _ _ ⟨A', n', c', rfl, h'⟩ hb'
                  simp only [Act.put, List.setIfInBounds_toArray, List.set_cons_zero, List.set_cons_succ]
                  refine Tab.cons IsV.lasting (fun wx hx hd => ?_) (fun v73 => ?_)
                  · skip
                    have e67 : v67 = _ := (hd _ (.tail _ (.tail _ (.tail _ (.tail _ (.tail _ (.head _)))))) (by kernel_rfl) : (IsV (.bool false)) v67 wx)
                    subst e67
                    have e69 : v69 = _ := (hd _ (.tail _ (.tail _ (.tail _ (.head _)))) (by kernel_rfl) : (IsV (.agg #[.slice AW nW cW, .slice AE nE cE])) v69 wx)
                    subst e69
                    obtain ⟨A72, n72, c72, rfl, h72⟩ := (hd _ (.head _) (by kernel_rfl) : (IsI (natI lens)) v72 wx)
                    clear hd
                    intro KK hK
                    go_simp
                    refine (fits_any _ AW nW cW W AE nE cE ee (h1.below hx.out) (h2.below hx.out) A72 n72 c72 lens h72).mono ?_
                    rintro e w' ⟨rfl, hb'⟩
                    exact hK.out _ _ rfl hb'
                  simp only [Act.put, List.setIfInBounds_toArray, List.set_cons_zero, List.set_cons_succ]
                  refine Tab.cons IsV.lasting (fun wx hx hd => ?_) (fun v74 => ?_)
                  · skip
                    have e67 : v67 = _ := (hd _ (.tail _ (.tail _ (.tail _ (.tail _ (.tail _ (.tail _ (.head _))))))) (by kernel_rfl) : (IsV (.bool false)) v67 wx)
                    subst e67
                    have e73 : v73 = _ := (hd _ (.head _) (by kernel_rfl) : (IsV (.int .i64 (fitsV W ee lens))) v73 wx)
                    subst e73
                    clear hd
                    intro KK hK
                    go_simp
                    exact hK.out _ _ rfl (Below.refl _ _)
                  simp only [Act.put, List.setIfInBounds_toArray, List.set_cons_zero, List.set_cons_succ]
                  refine Tab.cons IsV.lasting (fun wx hx hd => ?_) (fun v75 => ?_)
                  · skip
                    have e67 : v67 = _ := (hd _ (.tail _ (.tail _ (.tail _ (.tail _ (.tail _ (.tail _ (.tail _ (.head _)))))))) (by kernel_rfl) : (IsV (.bool false)) v67 wx)
                    subst e67
                    have e74 : v74 = _ := (hd _ (.head _) (by kernel_rfl) : (IsV (.bool (fitsV W ee lens != 0))) v74 wx)
                    subst e74
                    clear hd
                    intro KK hK
                    go_simp
                    exact hK.out _ _ rfl (Below.refl _ _)
                  simp only [Act.put, List.setIfInBounds_toArray, List.set_cons_zero, List.set_cons_succ]
                  refine Tab.cons IsV.lasting (fun wx hx hd => ?_) (fun v4 => ?_)
                  · skip
                    have e75 : v75 = _ := (hd _ (.head _) (by kernel_rfl) : (IsV (.bool (fitsV W ee lens != 0))) v75 wx)
                    subst e75
                    clear hd
                    intro KK hK
                    go_simp
                    exact hK.out _ _ rfl (Below.refl _ _)
                  simp only [Act.put, List.setIfInBounds_toArray, List.set_cons_zero, List.set_cons_succ]
                  refine Tab.nil fun wx hx hd => ?_
                  have e4 : v4 = _ := (hd _ (.head _) : (IsV (.bool (fitsV W ee lens != 0))) v4 wx)
                  subst e4
                  clear hd
                  clear ha hb
                  go_wp2
                  go_ret
                  exact ⟨_, rfl, below_step hx.out hS⟩
              · have ha : decide ((v : Int) ≤ (most : Int)) = false := decide_eq_false (by omega)
                refine wp_region_tab 19 76 [IsV (.int .i64 (v : Int)), IsV (.int .i64 (most : Int)), IsV (.bool false), IsV (.bool false), IsV (undef), IsV (undef), IsV (undef), IsV (undef), IsV (.bool false), IsV (.bool false), IsV (.pointer (some ⟨w.heap.size, 0, none⟩)), IsV (.agg #[.slice AW nW cW, .slice AE nE cE]), IsV (.pointer (some ⟨w.heap.size, 2, none⟩)), IsV (.slice A n c), IsI (natI lens), IsV (.int .i64 (fitsV W ee lens)), IsV (.bool (fitsV W ee lens != 0)), IsV (.bool (fitsV W ee lens != 0)), IsV (.bool (fitsV W ee lens != 0))] (From W0) (by kernel_rfl) (by kernel_rfl) (by kernel_rfl) rfl From.lasts (From.drew (From.refl W0)) ?_
                simp only [List.take_succ_cons, List.drop_succ_cons, List.take_nil, List.drop_nil]
                refine Tab.cons IsV.lasting (fun wx hx hd => ?_) (fun v58 => ?_)
                · skip
                  clear hd
                  intro KK hK
                  go_simp
                  exact hK.out _ _ rfl (Below.refl _ _)
                simp only [Act.put, List.setIfInBounds_toArray, List.set_cons_zero, List.set_cons_succ]
                refine Tab.cons IsV.lasting (fun wx hx hd => ?_) (fun v59 => ?_)
                · skip
                  clear hd
                  intro KK hK
                  go_simp
                  exact hK.out _ _ rfl (Below.refl _ _)
                simp only [Act.put, List.setIfInBounds_toArray, List.set_cons_zero, List.set_cons_succ]
                refine Tab.cons IsV.lasting (fun wx hx hd => ?_) (fun v60 => ?_)
                · skip
                  have e58 : v58 = _ := (hd _ (.tail _ (.head _)) (by kernel_rfl) : (IsV (.int .i64 (v : Int))) v58 wx)
                  subst e58
                  have e59 : v59 = _ := (hd _ (.head _) (by kernel_rfl) : (IsV (.int .i64 (most : Int))) v59 wx)
                  subst e59
                  clear hd
                  intro KK hK
                  go_simp
                  exact hK.out _ _ rfl (Below.refl _ _)
                simp only [Act.put, List.setIfInBounds_toArray, List.set_cons_zero, List.set_cons_succ]
                refine Tab.cons IsV.lasting (fun wx hx hd => ?_) (fun v61 => ?_)
                · skip
                  have e60 : v60 = _ := (hd _ (.head _) (by kernel_rfl) : (IsV (.bool false)) v60 wx)
                  subst e60
                  clear hd
                  intro KK hK
                  go_simp
                  exact hK.out _ _ rfl (Below.refl _ _)
                simp only [Act.put, List.setIfInBounds_toArray, List.set_cons_zero, List.set_cons_succ]
                refine Tab.cons IsV.lasting (fun wx hx hd => ?_) (fun v62 => ?_)
                · skip
                  have e61 : v61 = _ := (hd _ (.head _) (by kernel_rfl) : (IsV (.bool false)) v61 wx)
                  subst e61
                  clear hd
                  intro KK hK
                  go_simp
                  exact hK.out _ _ rfl (Below.refl _ _)
                simp only [Act.put, List.setIfInBounds_toArray, List.set_cons_zero, List.set_cons_succ]
                refine Tab.cons IsV.lasting (fun wx hx hd => ?_) (fun v63 => ?_)
                · skip
                  have e61 : v61 = _ := (hd _ (.tail _ (.head _)) (by kernel_rfl) : (IsV (.bool false)) v61 wx)
                  subst e61
                  clear hd
                  intro KK hK
                  go_simp
                  exact hK.out _ _ rfl (Below.refl _ _)
                simp only [Act.put, List.setIfInBounds_toArray, List.set_cons_zero, List.set_cons_succ]
                refine Tab.cons IsV.lasting (fun wx hx hd => ?_) (fun v64 => ?_)
                · skip
                  have e61 : v61 = _ := (hd _ (.tail _ (.tail _ (.head _))) (by kernel_rfl) : (IsV (.bool false)) v61 wx)
                  subst e61
                  clear hd
                  intro KK hK
                  go_simp
                  exact hK.out _ _ rfl (Below.refl _ _)
                simp only [Act.put, List.setIfInBounds_toArray, List.set_cons_zero, List.set_cons_succ]
                refine Tab.cons IsV.lasting (fun wx hx hd => ?_) (fun v65 => ?_)
                · skip
                  have e61 : v61 = _ := (hd _ (.tail _ (.tail _ (.tail _ (.head _)))) (by kernel_rfl) : (IsV (.bool false)) v61 wx)
                  subst e61
                  clear hd
                  intro KK hK
                  go_simp
                  exact hK.out _ _ rfl (Below.refl _ _)
                simp only [Act.put, List.setIfInBounds_toArray, List.set_cons_zero, List.set_cons_succ]
                refine Tab.cons IsV.lasting (fun wx hx hd => ?_) (fun v66 => ?_)
                · skip
                  have e61 : v61 = _ := (hd _ (.tail _ (.tail _ (.tail _ (.tail _ (.head _))))) (by kernel_rfl) : (IsV (.bool false)) v61 wx)
                  subst e61
                  have e65 : v65 = _ := (hd _ (.head _) (by kernel_rfl) : (IsV (undef)) v65 wx)
                  subst e65
                  clear hd
                  intro KK hK
                  go_simp
                  exact hK.out _ _ rfl (Below.refl _ _)
                simp only [Act.put, List.setIfInBounds_toArray, List.set_cons_zero, List.set_cons_succ]
                refine Tab.cons IsV.lasting (fun wx hx hd => ?_) (fun v67 => ?_)
                · skip
                  have e66 : v66 = _ := (hd _ (.head _) (by kernel_rfl) : (IsV (.bool false)) v66 wx)
                  subst e66
                  clear hd
                  intro KK hK
                  go_simp
                  exact hK.out _ _ rfl (Below.refl _ _)
                simp only [Act.put, List.setIfInBounds_toArray, List.set_cons_zero, List.set_cons_succ]
                refine Tab.cons IsV.lasting (fun wx hx hd => ?_) (fun v68 => ?_)
                · skip
                  have e67 : v67 = _ := (hd _ (.head _) (by kernel_rfl) : (IsV (.bool false)) v67 wx)
                  subst e67
                  clear hd
                  intro KK hK
                  go_simp
                  exact hK.out _ _ rfl (Below.refl _ _)
                simp only [Act.put, List.setIfInBounds_toArray, List.set_cons_zero, List.set_cons_succ]
                refine Tab.cons IsV.lasting (fun wx hx hd => ?_) (fun v69 => ?_)
                · skip
                  have e67 : v67 = _ := (hd _ (.tail _ (.head _)) (by kernel_rfl) : (IsV (.bool false)) v67 wx)
                  subst e67
                  have e68 : v68 = _ := (hd _ (.head _) (by kernel_rfl) : (IsV (.pointer (some ⟨w.heap.size, 0, none⟩))) v68 wx)
                  subst e68
                  clear hd
                  intro KK hK
                  have hcell0 := (hx.out.cell (p := ⟨w.heap.size, 0, none⟩) HZ.out).trans HC0.out
                  have hcell1 := (hx.out.cell (p := ⟨w.heap.size, 1, none⟩) HZ.out).trans HC1.out
                  go_simp
                  exact hK.out _ _ rfl (Below.refl _ _)
                simp only [Act.put, List.setIfInBounds_toArray, List.set_cons_zero, List.set_cons_succ]
                refine Tab.cons IsV.lasting (fun wx hx hd => ?_) (fun v70 => ?_)
                · skip
                  have e67 : v67 = _ := (hd _ (.tail _ (.tail _ (.head _))) (by kernel_rfl) : (IsV (.bool false)) v67 wx)
                  subst e67
                  clear hd
                  intro KK hK
                  go_simp
                  exact hK.out _ _ rfl (Below.refl _ _)
                simp only [Act.put, List.setIfInBounds_toArray, List.set_cons_zero, List.set_cons_succ]
                refine Tab.cons IsV.lasting (fun wx hx hd => ?_) (fun v71 => ?_)
                · skip
                  have e67 : v67 = _ := (hd _ (.tail _ (.tail _ (.tail _ (.head _)))) (by kernel_rfl) : (IsV (.bool false)) v67 wx)
                  subst e67
                  have e70 : v70 = _ := (hd _ (.head _) (by kernel_rfl) : (IsV (.pointer (some ⟨w.heap.size, 2, none⟩))) v70 wx)
                  subst e70
                  clear hd
                  intro KK hK
                  have hcell2 := (hx.out.cell (p := ⟨w.heap.size, 2, none⟩) HZ.out).trans HC2.out
                  go_simp
                  exact hK.out _ _ rfl (Below.refl _ _)
                simp only [Act.put, List.setIfInBounds_toArray, List.set_cons_zero, List.set_cons_succ]
                refine Tab.cons IsI.lasting (fun wx hx hd => ?_) (fun v72 => ?_)
                · skip
                  have e67 : v67 = _ := (hd _ (.tail _ (.tail _ (.tail _ (.tail _ (.head _))))) (by kernel_rfl) : (IsV (.bool false)) v67 wx)
                  subst e67
                  have e71 : v71 = _ := (hd _ (.head _) (by kernel_rfl) : (IsV (.slice A n c)) v71 wx)
                  subst e71
                  clear hd
                  intro KK hK
                  go_simp
                  refine (counts_any _ A n c lens (h3.below hx.out) hn).mono ?_
                  rintro e w' ⟨A', n', c', rfl, h', hb'⟩
                  exact hK.out _ _ ⟨A', n', c', rfl, h'⟩ hb'
                simp only [Act.put, List.setIfInBounds_toArray, List.set_cons_zero, List.set_cons_succ]
                refine Tab.cons IsV.lasting (fun wx hx hd => ?_) (fun v73 => ?_)
                · skip
                  have e67 : v67 = _ := (hd _ (.tail _ (.tail _ (.tail _ (.tail _ (.tail _ (.head _)))))) (by kernel_rfl) : (IsV (.bool false)) v67 wx)
                  subst e67
                  have e69 : v69 = _ := (hd _ (.tail _ (.tail _ (.tail _ (.head _)))) (by kernel_rfl) : (IsV (.agg #[.slice AW nW cW, .slice AE nE cE])) v69 wx)
                  subst e69
                  obtain ⟨A72, n72, c72, rfl, h72⟩ := (hd _ (.head _) (by kernel_rfl) : (IsI (natI lens)) v72 wx)
                  clear hd
                  intro KK hK
                  go_simp
                  refine (fits_any _ AW nW cW W AE nE cE ee (h1.below hx.out) (h2.below hx.out) A72 n72 c72 lens h72).mono ?_
                  rintro e w' ⟨rfl, hb'⟩
                  exact hK.out _ _ rfl hb'
                simp only [Act.put, List.setIfInBounds_toArray, List.set_cons_zero, List.set_cons_succ]
                refine Tab.cons IsV.lasting (fun wx hx hd => ?_) (fun v74 => ?_)
                · skip
                  have e67 : v67 = _ := (hd _ (.tail _ (.tail _ (.tail _ (.tail _ (.tail _ (.tail _ (.head _))))))) (by kernel_rfl) : (IsV (.bool false)) v67 wx)
                  subst e67
                  have e73 : v73 = _ := (hd _ (.head _) (by kernel_rfl) : (IsV (.int .i64 (fitsV W ee lens))) v73 wx)
                  subst e73
                  clear hd
                  intro KK hK
                  go_simp
                  exact hK.out _ _ rfl (Below.refl _ _)
                simp only [Act.put, List.setIfInBounds_toArray, List.set_cons_zero, List.set_cons_succ]
                refine Tab.cons IsV.lasting (fun wx hx hd => ?_) (fun v75 => ?_)
                · skip
                  have e67 : v67 = _ := (hd _ (.tail _ (.tail _ (.tail _ (.tail _ (.tail _ (.tail _ (.tail _ (.head _)))))))) (by kernel_rfl) : (IsV (.bool false)) v67 wx)
                  subst e67
                  have e74 : v74 = _ := (hd _ (.head _) (by kernel_rfl) : (IsV (.bool (fitsV W ee lens != 0))) v74 wx)
                  subst e74
                  clear hd
                  intro KK hK
                  go_simp
                  exact hK.out _ _ rfl (Below.refl _ _)
                simp only [Act.put, List.setIfInBounds_toArray, List.set_cons_zero, List.set_cons_succ]
                refine Tab.cons IsV.lasting (fun wx hx hd => ?_) (fun v4 => ?_)
                · skip
                  have e75 : v75 = _ := (hd _ (.head _) (by kernel_rfl) : (IsV (.bool (fitsV W ee lens != 0))) v75 wx)
                  subst e75
                  clear hd
                  intro KK hK
                  go_simp
                  exact hK.out _ _ rfl (Below.refl _ _)
                simp only [Act.put, List.setIfInBounds_toArray, List.set_cons_zero, List.set_cons_succ]
                refine Tab.nil fun wx hx hd => ?_
                have e4 : v4 = _ := (hd _ (.head _) : (IsV (.bool (fitsV W ee lens != 0))) v4 wx)
                subst e4
                clear hd
                clear ha
                go_wp2
                go_ret
                exact ⟨_, rfl, below_step hx.out hS⟩
            · have hd1 : decide ((i2 : Int) < (nW : Int)) = false := decide_eq_false (by omega)
              clear hnot2
              go_wp2_with fail
              clear hd1 hl1
              by_cases hA : v ≤ most
              · by_cases hB : v2 ≤ 4 * most
                · have ha : decide ((v : Int) ≤ (most : Int)) = true := decide_eq_true (by omega)
                  have hb : decide ((v2 : Int) ≤ 4 * (most : Int)) = true := decide_eq_true (by omega)
                  go_quiet (fail)
                  clear ha hb
                  go_wp2
                  go_ret
                  exact ⟨_, rfl, below_drewN hS _⟩
                · have ha : decide ((v : Int) ≤ (most : Int)) = true := decide_eq_true (by omega)
                  have hb : decide ((v2 : Int) ≤ 4 * (most : Int)) = false := decide_eq_false (by omega)
                  refine wp_region_tab 19 76 [IsV (.int .i64 (v : Int)), IsV (.int .i64 (most : Int)), IsV (.bool true), IsV (.bool true), IsV (.int .i64 (v2 : Int)), IsV (.int .i64 (most : Int)), IsV (.int .i64 (4 * (most : Int))), IsV (.bool false), IsV (.bool false), IsV (.bool false), IsV (.pointer (some ⟨w.heap.size, 0, none⟩)), IsV (.agg #[.slice AW nW cW, .slice AE nE cE]), IsV (.pointer (some ⟨w.heap.size, 2, none⟩)), IsV (.slice A n c), IsI (natI lens), IsV (.int .i64 (fitsV W ee lens)), IsV (.bool (fitsV W ee lens != 0)), IsV (.bool (fitsV W ee lens != 0)), IsV (.bool (fitsV W ee lens != 0))] (From W0) (by kernel_rfl) (by kernel_rfl) (by kernel_rfl) rfl From.lasts (From.drew (From.refl W0)) ?_
                  simp only [List.take_succ_cons, List.drop_succ_cons, List.take_nil, List.drop_nil]
                  refine Tab.cons IsV.lasting (fun wx hx hd => ?_) (fun v58 => ?_)
                  · skip
                    clear hd
                    intro KK hK
                    go_simp
                    exact hK.out _ _ rfl (Below.refl _ _)
                  simp only [Act.put, List.setIfInBounds_toArray, List.set_cons_zero, List.set_cons_succ]
                  refine Tab.cons IsV.lasting (fun wx hx hd => ?_) (fun v59 => ?_)
                  · skip
                    clear hd
                    intro KK hK
                    go_simp
                    exact hK.out _ _ rfl (Below.refl _ _)
                  simp only [Act.put, List.setIfInBounds_toArray, List.set_cons_zero, List.set_cons_succ]
                  refine Tab.cons IsV.lasting (fun wx hx hd => ?_) (fun v60 => ?_)
                  · skip
                    have e58 : v58 = _ := (hd _ (.tail _ (.head _)) (by kernel_rfl) : (IsV (.int .i64 (v : Int))) v58 wx)
                    subst e58
                    have e59 : v59 = _ := (hd _ (.head _) (by kernel_rfl) : (IsV (.int .i64 (most : Int))) v59 wx)
                    subst e59
                    clear hd
                    intro KK hK
                    go_simp
                    exact hK.out _ _ rfl (Below.refl _ _)
                  simp only [Act.put, List.setIfInBounds_toArray, List.set_cons_zero, List.set_cons_succ]
                  refine Tab.cons IsV.lasting (fun wx hx hd => ?_) (fun v61 => ?_)
                  · skip
                    have e60 : v60 = _ := (hd _ (.head _) (by kernel_rfl) : (IsV (.bool true)) v60 wx)
                    subst e60
                    clear hd
                    intro KK hK
                    go_simp
                    exact hK.out _ _ rfl (Below.refl _ _)
                  simp only [Act.put, List.setIfInBounds_toArray, List.set_cons_zero, List.set_cons_succ]
                  refine Tab.cons IsV.lasting (fun wx hx hd => ?_) (fun v62 => ?_)
                  · skip
                    have e61 : v61 = _ := (hd _ (.head _) (by kernel_rfl) : (IsV (.bool true)) v61 wx)
                    subst e61
                    clear hd
                    intro KK hK
                    go_simp
                    exact hK.out _ _ rfl (Below.refl _ _)
                  simp only [Act.put, List.setIfInBounds_toArray, List.set_cons_zero, List.set_cons_succ]
                  refine Tab.cons IsV.lasting (fun wx hx hd => ?_) (fun v63 => ?_)
                  · skip
                    have e61 : v61 = _ := (hd _ (.tail _ (.head _)) (by kernel_rfl) : (IsV (.bool true)) v61 wx)
                    subst e61
                    clear hd
                    intro KK hK
                    go_simp
                    exact hK.out _ _ rfl (Below.refl _ _)
                  simp only [Act.put, List.setIfInBounds_toArray, List.set_cons_zero, List.set_cons_succ]
                  refine Tab.cons IsV.lasting (fun wx hx hd => ?_) (fun v64 => ?_)
                  · skip
                    have e61 : v61 = _ := (hd _ (.tail _ (.tail _ (.head _))) (by kernel_rfl) : (IsV (.bool true)) v61 wx)
                    subst e61
                    have e63 : v63 = _ := (hd _ (.head _) (by kernel_rfl) : (IsV (.int .i64 (most : Int))) v63 wx)
                    subst e63
                    clear hd
                    intro KK hK
                    go_simp
                    rw [show IntKind.i64.wrap (4 * (most : Int)) = 4 * (most : Int) from IntWalk.i64_in _ (by omega)]
                    exact hK.out _ _ rfl (Below.refl _ _)
                  simp only [Act.put, List.setIfInBounds_toArray, List.set_cons_zero, List.set_cons_succ]
                  refine Tab.cons IsV.lasting (fun wx hx hd => ?_) (fun v65 => ?_)
                  · skip
                    have e61 : v61 = _ := (hd _ (.tail _ (.tail _ (.tail _ (.head _)))) (by kernel_rfl) : (IsV (.bool true)) v61 wx)
                    subst e61
                    have e62 : v62 = _ := (hd _ (.tail _ (.tail _ (.head _))) (by kernel_rfl) : (IsV (.int .i64 (v2 : Int))) v62 wx)
                    subst e62
                    have e64 : v64 = _ := (hd _ (.head _) (by kernel_rfl) : (IsV (.int .i64 (4 * (most : Int)))) v64 wx)
                    subst e64
                    clear hd
                    intro KK hK
                    go_simp
                    exact hK.out _ _ rfl (Below.refl _ _)
                  simp only [Act.put, List.setIfInBounds_toArray, List.set_cons_zero, List.set_cons_succ]
                  refine Tab.cons IsV.lasting (fun wx hx hd => ?_) (fun v66 => ?_)
                  · skip
                    have e61 : v61 = _ := (hd _ (.tail _ (.tail _ (.tail _ (.tail _ (.head _))))) (by kernel_rfl) : (IsV (.bool true)) v61 wx)
                    subst e61
                    have e65 : v65 = _ := (hd _ (.head _) (by kernel_rfl) : (IsV (.bool false)) v65 wx)
                    subst e65
                    clear hd
                    intro KK hK
                    go_simp
                    exact hK.out _ _ rfl (Below.refl _ _)
                  simp only [Act.put, List.setIfInBounds_toArray, List.set_cons_zero, List.set_cons_succ]
                  refine Tab.cons IsV.lasting (fun wx hx hd => ?_) (fun v67 => ?_)
                  · skip
                    have e66 : v66 = _ := (hd _ (.head _) (by kernel_rfl) : (IsV (.bool false)) v66 wx)
                    subst e66
                    clear hd
                    intro KK hK
                    go_simp
                    exact hK.out _ _ rfl (Below.refl _ _)
                  simp only [Act.put, List.setIfInBounds_toArray, List.set_cons_zero, List.set_cons_succ]
                  refine Tab.cons IsV.lasting (fun wx hx hd => ?_) (fun v68 => ?_)
                  · skip
                    have e67 : v67 = _ := (hd _ (.head _) (by kernel_rfl) : (IsV (.bool false)) v67 wx)
                    subst e67
                    clear hd
                    intro KK hK
                    go_simp
                    exact hK.out _ _ rfl (Below.refl _ _)
                  simp only [Act.put, List.setIfInBounds_toArray, List.set_cons_zero, List.set_cons_succ]
                  refine Tab.cons IsV.lasting (fun wx hx hd => ?_) (fun v69 => ?_)
                  · skip
                    have e67 : v67 = _ := (hd _ (.tail _ (.head _)) (by kernel_rfl) : (IsV (.bool false)) v67 wx)
                    subst e67
                    have e68 : v68 = _ := (hd _ (.head _) (by kernel_rfl) : (IsV (.pointer (some ⟨w.heap.size, 0, none⟩))) v68 wx)
                    subst e68
                    clear hd
                    intro KK hK
                    have hcell0 := (hx.out.cell (p := ⟨w.heap.size, 0, none⟩) HZ.out).trans HC0.out
                    have hcell1 := (hx.out.cell (p := ⟨w.heap.size, 1, none⟩) HZ.out).trans HC1.out
                    go_simp
                    exact hK.out _ _ rfl (Below.refl _ _)
                  simp only [Act.put, List.setIfInBounds_toArray, List.set_cons_zero, List.set_cons_succ]
                  refine Tab.cons IsV.lasting (fun wx hx hd => ?_) (fun v70 => ?_)
                  · skip
                    have e67 : v67 = _ := (hd _ (.tail _ (.tail _ (.head _))) (by kernel_rfl) : (IsV (.bool false)) v67 wx)
                    subst e67
                    clear hd
                    intro KK hK
                    go_simp
                    exact hK.out _ _ rfl (Below.refl _ _)
                  simp only [Act.put, List.setIfInBounds_toArray, List.set_cons_zero, List.set_cons_succ]
                  refine Tab.cons IsV.lasting (fun wx hx hd => ?_) (fun v71 => ?_)
                  · skip
                    have e67 : v67 = _ := (hd _ (.tail _ (.tail _ (.tail _ (.head _)))) (by kernel_rfl) : (IsV (.bool false)) v67 wx)
                    subst e67
                    have e70 : v70 = _ := (hd _ (.head _) (by kernel_rfl) : (IsV (.pointer (some ⟨w.heap.size, 2, none⟩))) v70 wx)
                    subst e70
                    clear hd
                    intro KK hK
                    have hcell2 := (hx.out.cell (p := ⟨w.heap.size, 2, none⟩) HZ.out).trans HC2.out
                    go_simp
                    exact hK.out _ _ rfl (Below.refl _ _)
                  simp only [Act.put, List.setIfInBounds_toArray, List.set_cons_zero, List.set_cons_succ]
                  refine Tab.cons IsI.lasting (fun wx hx hd => ?_) (fun v72 => ?_)
                  · skip
                    have e67 : v67 = _ := (hd _ (.tail _ (.tail _ (.tail _ (.tail _ (.head _))))) (by kernel_rfl) : (IsV (.bool false)) v67 wx)
                    subst e67
                    have e71 : v71 = _ := (hd _ (.head _) (by kernel_rfl) : (IsV (.slice A n c)) v71 wx)
                    subst e71
                    clear hd
                    intro KK hK
                    go_simp
                    refine (counts_any _ A n c lens (h3.below hx.out) hn).mono ?_
                    rintro e w' ⟨A', n', c', rfl, h', hb'⟩
                    exact hK.out _ _ ⟨A', n', c', rfl, h'⟩ hb'
                  simp only [Act.put, List.setIfInBounds_toArray, List.set_cons_zero, List.set_cons_succ]
                  refine Tab.cons IsV.lasting (fun wx hx hd => ?_) (fun v73 => ?_)
                  · skip
                    have e67 : v67 = _ := (hd _ (.tail _ (.tail _ (.tail _ (.tail _ (.tail _ (.head _)))))) (by kernel_rfl) : (IsV (.bool false)) v67 wx)
                    subst e67
                    have e69 : v69 = _ := (hd _ (.tail _ (.tail _ (.tail _ (.head _)))) (by kernel_rfl) : (IsV (.agg #[.slice AW nW cW, .slice AE nE cE])) v69 wx)
                    subst e69
                    obtain ⟨A72, n72, c72, rfl, h72⟩ := (hd _ (.head _) (by kernel_rfl) : (IsI (natI lens)) v72 wx)
                    clear hd
                    intro KK hK
                    go_simp
                    refine (fits_any _ AW nW cW W AE nE cE ee (h1.below hx.out) (h2.below hx.out) A72 n72 c72 lens h72).mono ?_
                    rintro e w' ⟨rfl, hb'⟩
                    exact hK.out _ _ rfl hb'
                  simp only [Act.put, List.setIfInBounds_toArray, List.set_cons_zero, List.set_cons_succ]
                  refine Tab.cons IsV.lasting (fun wx hx hd => ?_) (fun v74 => ?_)
                  · skip
                    have e67 : v67 = _ := (hd _ (.tail _ (.tail _ (.tail _ (.tail _ (.tail _ (.tail _ (.head _))))))) (by kernel_rfl) : (IsV (.bool false)) v67 wx)
                    subst e67
                    have e73 : v73 = _ := (hd _ (.head _) (by kernel_rfl) : (IsV (.int .i64 (fitsV W ee lens))) v73 wx)
                    subst e73
                    clear hd
                    intro KK hK
                    go_simp
                    exact hK.out _ _ rfl (Below.refl _ _)
                  simp only [Act.put, List.setIfInBounds_toArray, List.set_cons_zero, List.set_cons_succ]
                  refine Tab.cons IsV.lasting (fun wx hx hd => ?_) (fun v75 => ?_)
                  · skip
                    have e67 : v67 = _ := (hd _ (.tail _ (.tail _ (.tail _ (.tail _ (.tail _ (.tail _ (.tail _ (.head _)))))))) (by kernel_rfl) : (IsV (.bool false)) v67 wx)
                    subst e67
                    have e74 : v74 = _ := (hd _ (.head _) (by kernel_rfl) : (IsV (.bool (fitsV W ee lens != 0))) v74 wx)
                    subst e74
                    clear hd
                    intro KK hK
                    go_simp
                    exact hK.out _ _ rfl (Below.refl _ _)
                  simp only [Act.put, List.setIfInBounds_toArray, List.set_cons_zero, List.set_cons_succ]
                  refine Tab.cons IsV.lasting (fun wx hx hd => ?_) (fun v4 => ?_)
                  · skip
                    have e75 : v75 = _ := (hd _ (.head _) (by kernel_rfl) : (IsV (.bool (fitsV W ee lens != 0))) v75 wx)
                    subst e75
                    clear hd
                    intro KK hK
                    go_simp
                    exact hK.out _ _ rfl (Below.refl _ _)
                  simp only [Act.put, List.setIfInBounds_toArray, List.set_cons_zero, List.set_cons_succ]
                  refine Tab.nil fun wx hx hd => ?_
                  have e4 : v4 = _ := (hd _ (.head _) : (IsV (.bool (fitsV W ee lens != 0))) v4 wx)
                  subst e4
                  clear hd
                  clear ha hb
                  go_wp2
                  go_ret
                  exact ⟨_, rfl, below_step hx.out hS⟩
              · have ha : decide ((v : Int) ≤ (most : Int)) = false := decide_eq_false (by omega)
                refine wp_region_tab 19 76 [IsV (.int .i64 (v : Int)), IsV (.int .i64 (most : Int)), IsV (.bool false), IsV (.bool false), IsV (undef), IsV (undef), IsV (undef), IsV (undef), IsV (.bool false), IsV (.bool false), IsV (.pointer (some ⟨w.heap.size, 0, none⟩)), IsV (.agg #[.slice AW nW cW, .slice AE nE cE]), IsV (.pointer (some ⟨w.heap.size, 2, none⟩)), IsV (.slice A n c), IsI (natI lens), IsV (.int .i64 (fitsV W ee lens)), IsV (.bool (fitsV W ee lens != 0)), IsV (.bool (fitsV W ee lens != 0)), IsV (.bool (fitsV W ee lens != 0))] (From W0) (by kernel_rfl) (by kernel_rfl) (by kernel_rfl) rfl From.lasts (From.drew (From.refl W0)) ?_
                simp only [List.take_succ_cons, List.drop_succ_cons, List.take_nil, List.drop_nil]
                refine Tab.cons IsV.lasting (fun wx hx hd => ?_) (fun v58 => ?_)
                · skip
                  clear hd
                  intro KK hK
                  go_simp
                  exact hK.out _ _ rfl (Below.refl _ _)
                simp only [Act.put, List.setIfInBounds_toArray, List.set_cons_zero, List.set_cons_succ]
                refine Tab.cons IsV.lasting (fun wx hx hd => ?_) (fun v59 => ?_)
                · skip
                  clear hd
                  intro KK hK
                  go_simp
                  exact hK.out _ _ rfl (Below.refl _ _)
                simp only [Act.put, List.setIfInBounds_toArray, List.set_cons_zero, List.set_cons_succ]
                refine Tab.cons IsV.lasting (fun wx hx hd => ?_) (fun v60 => ?_)
                · skip
                  have e58 : v58 = _ := (hd _ (.tail _ (.head _)) (by kernel_rfl) : (IsV (.int .i64 (v : Int))) v58 wx)
                  subst e58
                  have e59 : v59 = _ := (hd _ (.head _) (by kernel_rfl) : (IsV (.int .i64 (most : Int))) v59 wx)
                  subst e59
                  clear hd
                  intro KK hK
                  go_simp
                  exact hK.out _ _ rfl (Below.refl _ _)
                simp only [Act.put, List.setIfInBounds_toArray, List.set_cons_zero, List.set_cons_succ]
                refine Tab.cons IsV.lasting (fun wx hx hd => ?_) (fun v61 => ?_)
                · skip
                  have e60 : v60 = _ := (hd _ (.head _) (by kernel_rfl) : (IsV (.bool false)) v60 wx)
                  subst e60
                  clear hd
                  intro KK hK
                  go_simp
                  exact hK.out _ _ rfl (Below.refl _ _)
                simp only [Act.put, List.setIfInBounds_toArray, List.set_cons_zero, List.set_cons_succ]
                refine Tab.cons IsV.lasting (fun wx hx hd => ?_) (fun v62 => ?_)
                · skip
                  have e61 : v61 = _ := (hd _ (.head _) (by kernel_rfl) : (IsV (.bool false)) v61 wx)
                  subst e61
                  clear hd
                  intro KK hK
                  go_simp
                  exact hK.out _ _ rfl (Below.refl _ _)
                simp only [Act.put, List.setIfInBounds_toArray, List.set_cons_zero, List.set_cons_succ]
                refine Tab.cons IsV.lasting (fun wx hx hd => ?_) (fun v63 => ?_)
                · skip
                  have e61 : v61 = _ := (hd _ (.tail _ (.head _)) (by kernel_rfl) : (IsV (.bool false)) v61 wx)
                  subst e61
                  clear hd
                  intro KK hK
                  go_simp
                  exact hK.out _ _ rfl (Below.refl _ _)
                simp only [Act.put, List.setIfInBounds_toArray, List.set_cons_zero, List.set_cons_succ]
                refine Tab.cons IsV.lasting (fun wx hx hd => ?_) (fun v64 => ?_)
                · skip
                  have e61 : v61 = _ := (hd _ (.tail _ (.tail _ (.head _))) (by kernel_rfl) : (IsV (.bool false)) v61 wx)
                  subst e61
                  clear hd
                  intro KK hK
                  go_simp
                  exact hK.out _ _ rfl (Below.refl _ _)
                simp only [Act.put, List.setIfInBounds_toArray, List.set_cons_zero, List.set_cons_succ]
                refine Tab.cons IsV.lasting (fun wx hx hd => ?_) (fun v65 => ?_)
                · skip
                  have e61 : v61 = _ := (hd _ (.tail _ (.tail _ (.tail _ (.head _)))) (by kernel_rfl) : (IsV (.bool false)) v61 wx)
                  subst e61
                  clear hd
                  intro KK hK
                  go_simp
                  exact hK.out _ _ rfl (Below.refl _ _)
                simp only [Act.put, List.setIfInBounds_toArray, List.set_cons_zero, List.set_cons_succ]
                refine Tab.cons IsV.lasting (fun wx hx hd => ?_) (fun v66 => ?_)
                · skip
                  have e61 : v61 = _ := (hd _ (.tail _ (.tail _ (.tail _ (.tail _ (.head _))))) (by kernel_rfl) : (IsV (.bool false)) v61 wx)
                  subst e61
                  have e65 : v65 = _ := (hd _ (.head _) (by kernel_rfl) : (IsV (undef)) v65 wx)
                  subst e65
                  clear hd
                  intro KK hK
                  go_simp
                  exact hK.out _ _ rfl (Below.refl _ _)
                simp only [Act.put, List.setIfInBounds_toArray, List.set_cons_zero, List.set_cons_succ]
                refine Tab.cons IsV.lasting (fun wx hx hd => ?_) (fun v67 => ?_)
                · skip
                  have e66 : v66 = _ := (hd _ (.head _) (by kernel_rfl) : (IsV (.bool false)) v66 wx)
                  subst e66
                  clear hd
                  intro KK hK
                  go_simp
                  exact hK.out _ _ rfl (Below.refl _ _)
                simp only [Act.put, List.setIfInBounds_toArray, List.set_cons_zero, List.set_cons_succ]
                refine Tab.cons IsV.lasting (fun wx hx hd => ?_) (fun v68 => ?_)
                · skip
                  have e67 : v67 = _ := (hd _ (.head _) (by kernel_rfl) : (IsV (.bool false)) v67 wx)
                  subst e67
                  clear hd
                  intro KK hK
                  go_simp
                  exact hK.out _ _ rfl (Below.refl _ _)
                simp only [Act.put, List.setIfInBounds_toArray, List.set_cons_zero, List.set_cons_succ]
                refine Tab.cons IsV.lasting (fun wx hx hd => ?_) (fun v69 => ?_)
                · skip
                  have e67 : v67 = _ := (hd _ (.tail _ (.head _)) (by kernel_rfl) : (IsV (.bool false)) v67 wx)
                  subst e67
                  have e68 : v68 = _ := (hd _ (.head _) (by kernel_rfl) : (IsV (.pointer (some ⟨w.heap.size, 0, none⟩))) v68 wx)
                  subst e68
                  clear hd
                  intro KK hK
                  have hcell0 := (hx.out.cell (p := ⟨w.heap.size, 0, none⟩) HZ.out).trans HC0.out
                  have hcell1 := (hx.out.cell (p := ⟨w.heap.size, 1, none⟩) HZ.out).trans HC1.out
                  go_simp
                  exact hK.out _ _ rfl (Below.refl _ _)
                simp only [Act.put, List.setIfInBounds_toArray, List.set_cons_zero, List.set_cons_succ]
                refine Tab.cons IsV.lasting (fun wx hx hd => ?_) (fun v70 => ?_)
                · skip
                  have e67 : v67 = _ := (hd _ (.tail _ (.tail _ (.head _))) (by kernel_rfl) : (IsV (.bool false)) v67 wx)
                  subst e67
                  clear hd
                  intro KK hK
                  go_simp
                  exact hK.out _ _ rfl (Below.refl _ _)
                simp only [Act.put, List.setIfInBounds_toArray, List.set_cons_zero, List.set_cons_succ]
                refine Tab.cons IsV.lasting (fun wx hx hd => ?_) (fun v71 => ?_)
                · skip
                  have e67 : v67 = _ := (hd _ (.tail _ (.tail _ (.tail _ (.head _)))) (by kernel_rfl) : (IsV (.bool false)) v67 wx)
                  subst e67
                  have e70 : v70 = _ := (hd _ (.head _) (by kernel_rfl) : (IsV (.pointer (some ⟨w.heap.size, 2, none⟩))) v70 wx)
                  subst e70
                  clear hd
                  intro KK hK
                  have hcell2 := (hx.out.cell (p := ⟨w.heap.size, 2, none⟩) HZ.out).trans HC2.out
                  go_simp
                  exact hK.out _ _ rfl (Below.refl _ _)
                simp only [Act.put, List.setIfInBounds_toArray, List.set_cons_zero, List.set_cons_succ]
                refine Tab.cons IsI.lasting (fun wx hx hd => ?_) (fun v72 => ?_)
                · skip
                  have e67 : v67 = _ := (hd _ (.tail _ (.tail _ (.tail _ (.tail _ (.head _))))) (by kernel_rfl) : (IsV (.bool false)) v67 wx)
                  subst e67
                  have e71 : v71 = _ := (hd _ (.head _) (by kernel_rfl) : (IsV (.slice A n c)) v71 wx)
                  subst e71
                  clear hd
                  intro KK hK
                  go_simp
                  refine (counts_any _ A n c lens (h3.below hx.out) hn).mono ?_
                  rintro e w' ⟨A', n', c', rfl, h', hb'⟩
                  exact hK.out _ _ ⟨A', n', c', rfl, h'⟩ hb'
                simp only [Act.put, List.setIfInBounds_toArray, List.set_cons_zero, List.set_cons_succ]
                refine Tab.cons IsV.lasting (fun wx hx hd => ?_) (fun v73 => ?_)
                · skip
                  have e67 : v67 = _ := (hd _ (.tail _ (.tail _ (.tail _ (.tail _ (.tail _ (.head _)))))) (by kernel_rfl) : (IsV (.bool false)) v67 wx)
                  subst e67
                  have e69 : v69 = _ := (hd _ (.tail _ (.tail _ (.tail _ (.head _)))) (by kernel_rfl) : (IsV (.agg #[.slice AW nW cW, .slice AE nE cE])) v69 wx)
                  subst e69
                  obtain ⟨A72, n72, c72, rfl, h72⟩ := (hd _ (.head _) (by kernel_rfl) : (IsI (natI lens)) v72 wx)
                  clear hd
                  intro KK hK
                  go_simp
                  refine (fits_any _ AW nW cW W AE nE cE ee (h1.below hx.out) (h2.below hx.out) A72 n72 c72 lens h72).mono ?_
                  rintro e w' ⟨rfl, hb'⟩
                  exact hK.out _ _ rfl hb'
                simp only [Act.put, List.setIfInBounds_toArray, List.set_cons_zero, List.set_cons_succ]
                refine Tab.cons IsV.lasting (fun wx hx hd => ?_) (fun v74 => ?_)
                · skip
                  have e67 : v67 = _ := (hd _ (.tail _ (.tail _ (.tail _ (.tail _ (.tail _ (.tail _ (.head _))))))) (by kernel_rfl) : (IsV (.bool false)) v67 wx)
                  subst e67
                  have e73 : v73 = _ := (hd _ (.head _) (by kernel_rfl) : (IsV (.int .i64 (fitsV W ee lens))) v73 wx)
                  subst e73
                  clear hd
                  intro KK hK
                  go_simp
                  exact hK.out _ _ rfl (Below.refl _ _)
                simp only [Act.put, List.setIfInBounds_toArray, List.set_cons_zero, List.set_cons_succ]
                refine Tab.cons IsV.lasting (fun wx hx hd => ?_) (fun v75 => ?_)
                · skip
                  have e67 : v67 = _ := (hd _ (.tail _ (.tail _ (.tail _ (.tail _ (.tail _ (.tail _ (.tail _ (.head _)))))))) (by kernel_rfl) : (IsV (.bool false)) v67 wx)
                  subst e67
                  have e74 : v74 = _ := (hd _ (.head _) (by kernel_rfl) : (IsV (.bool (fitsV W ee lens != 0))) v74 wx)
                  subst e74
                  clear hd
                  intro KK hK
                  go_simp
                  exact hK.out _ _ rfl (Below.refl _ _)
                simp only [Act.put, List.setIfInBounds_toArray, List.set_cons_zero, List.set_cons_succ]
                refine Tab.cons IsV.lasting (fun wx hx hd => ?_) (fun v4 => ?_)
                · skip
                  have e75 : v75 = _ := (hd _ (.head _) (by kernel_rfl) : (IsV (.bool (fitsV W ee lens != 0))) v75 wx)
                  subst e75
                  clear hd
                  intro KK hK
                  go_simp
                  exact hK.out _ _ rfl (Below.refl _ _)
                simp only [Act.put, List.setIfInBounds_toArray, List.set_cons_zero, List.set_cons_succ]
                refine Tab.nil fun wx hx hd => ?_
                have e4 : v4 = _ := (hd _ (.head _) : (IsV (.bool (fitsV W ee lens != 0))) v4 wx)
                subst e4
                clear hd
                clear ha
                go_wp2
                go_ret
                exact ⟨_, rfl, below_step hx.out hS⟩
      · have hd1 : decide ((i : Int) < (nE : Int)) = false := decide_eq_false (by omega)
        clear hnot
        go_wp2_with fail
        clear hd1 hl0
        go_loop [7, 8] (fun nv iv => ∃ i2 v2 : Nat, i2 ≤ nW ∧ i2 ≤ 100 ∧ iv = .int .i64 (i2 : Int) ∧ nv = .int .i64 (v2 : Int) ∧ v2 ≤ i2 * 8001) (fun _ iv => nW - (intOf iv).toNat)
        case atStart => exact ⟨0, 0, Nat.zero_le _, by omega, rfl, rfl, by omega⟩
        case round =>
          obtain ⟨i2, v2, hi3, hi4, rfl, rfl, hv2⟩ := hrel
          by_cases hlt : i2 < nW ∧ i2 < 100
          · obtain ⟨hlt, hlt2⟩ := hlt
            obtain ⟨b, off, rfl, hb, hcell⟩ := h1.at hlt
            have hbd := h1.bd i2
            generalize W.getD i2 0 = z at *
            have hd1 : decide ((i2 : Int) < (nW : Int)) = true := decide_eq_true (by omega)
            have hd2 : decide ((i2 : Int) < 100) = true := decide_eq_true (by omega)
            have hu : ∃ (y : Int) (u : Nat), min z (4 * (most : Int) + 1) = y ∧ max 0 y = (u : Int) ∧ u ≤ 8001 := ⟨_, (max 0 (min z (4 * (most : Int) + 1))).toNat, rfl, by omega, by omega⟩
            obtain ⟨y, u, hmin, hmax, hu⟩ := hu
            go_wp2
            go_round
            case rel => exact ⟨i2 + 1, v2 + u, by omega, by omega, by go_num, by go_num, by omega⟩
            case measure => simp [intOf]; omega
          · have hv3 : v2 ≤ 800100 := by omega
            have hnot2 : (nW : Int) ≤ (i2 : Int) ∨ (100 : Int) ≤ (i2 : Int) := by omega
            clear hv2 hlt
            by_cases hl1 : i2 < nW
            · have hd1 : decide ((i2 : Int) < (nW : Int)) = true := decide_eq_true (by omega)
              have hd2 : decide ((i2 : Int) < 100) = false := decide_eq_false (by omega)
              have hd3 : ¬ (i2 : Int) < 100 := by omega
              clear hnot2
              go_wp2_with fail
              clear hd1 hd2 hd3 hl1
              by_cases hA : v ≤ most
              · by_cases hB : v2 ≤ 4 * most
                · have ha : decide ((v : Int) ≤ (most : Int)) = true := decide_eq_true (by omega)
                  have hb : decide ((v2 : Int) ≤ 4 * (most : Int)) = true := decide_eq_true (by omega)
                  go_quiet (fail)
                  clear ha hb
                  go_wp2
                  go_ret
                  exact ⟨_, rfl, below_drewN hS _⟩
                · have ha : decide ((v : Int) ≤ (most : Int)) = true := decide_eq_true (by omega)
                  have hb : decide ((v2 : Int) ≤ 4 * (most : Int)) = false := decide_eq_false (by omega)
                  refine wp_region_tab 19 76 [IsV (.int .i64 (v : Int)), IsV (.int .i64 (most : Int)), IsV (.bool true), IsV (.bool true), IsV (.int .i64 (v2 : Int)), IsV (.int .i64 (most : Int)), IsV (.int .i64 (4 * (most : Int))), IsV (.bool false), IsV (.bool false), IsV (.bool false), IsV (.pointer (some ⟨w.heap.size, 0, none⟩)), IsV (.agg #[.slice AW nW cW, .slice AE nE cE]), IsV (.pointer (some ⟨w.heap.size, 2, none⟩)), IsV (.slice A n c), IsI (natI lens), IsV (.int .i64 (fitsV W ee lens)), IsV (.bool (fitsV W ee lens != 0)), IsV (.bool (fitsV W ee lens != 0)), IsV (.bool (fitsV W ee lens != 0))] (From W0) (by kernel_rfl) (by kernel_rfl) (by kernel_rfl) rfl From.lasts (From.drew (From.refl W0)) ?_
                  simp only [List.take_succ_cons, List.drop_succ_cons, List.take_nil, List.drop_nil]
                  refine Tab.cons IsV.lasting (fun wx hx hd => ?_) (fun v58 => ?_)
                  · skip
                    clear hd
                    intro KK hK
                    go_simp
                    exact hK.out _ _ rfl (Below.refl _ _)
                  simp only [Act.put, List.setIfInBounds_toArray, List.set_cons_zero, List.set_cons_succ]
                  refine Tab.cons IsV.lasting (fun wx hx hd => ?_) (fun v59 => ?_)
                  · skip
                    clear hd
                    intro KK hK
                    go_simp
                    exact hK.out _ _ rfl (Below.refl _ _)
                  simp only [Act.put, List.setIfInBounds_toArray, List.set_cons_zero, List.set_cons_succ]
                  refine Tab.cons IsV.lasting (fun wx hx hd => ?_) (fun v60 => ?_)
                  · skip
                    have e58 : v58 = _ := (hd _ (.tail _ (.head _)) (by kernel_rfl) : (IsV (.int .i64 (v : Int))) v58 wx)
                    subst e58
                    have e59 : v59 = _ := (hd _ (.head _) (by kernel_rfl) : (IsV (.int .i64 (most : Int))) v59 wx)
                    subst e59
                    clear hd
                    intro KK hK
                    go_simp
                    exact hK.out _ _ rfl (Below.refl _ _)
                  simp only [Act.put, List.setIfInBounds_toArray, List.set_cons_zero, List.set_cons_succ]
                  refine Tab.cons IsV.lasting (fun wx hx hd => ?_) (fun v61 => ?_)
                  · skip
                    have e60 : v60 = _ := (hd _ (.head _) (by kernel_rfl) : (IsV (.bool true)) v60 wx)
                    subst e60
                    clear hd
                    intro KK hK
                    go_simp
                    exact hK.out _ _ rfl (Below.refl _ _)
                  simp only [Act.put, List.setIfInBounds_toArray, List.set_cons_zero, List.set_cons_succ]
                  refine Tab.cons IsV.lasting (fun wx hx hd => ?_) (fun v62 => ?_)
                  · skip
                    have e61 : v61 = _ := (hd _ (.head _) (by kernel_rfl) : (IsV (.bool true)) v61 wx)
                    subst e61
                    clear hd
                    intro KK hK
                    go_simp
                    exact hK.out _ _ rfl (Below.refl _ _)
                  simp only [Act.put, List.setIfInBounds_toArray, List.set_cons_zero, List.set_cons_succ]
                  refine Tab.cons IsV.lasting (fun wx hx hd => ?_) (fun v63 => ?_)
                  · skip
                    have e61 : v61 = _ := (hd _ (.tail _ (.head _)) (by kernel_rfl) : (IsV (.bool true)) v61 wx)
                    subst e61
                    clear hd
                    intro KK hK
                    go_simp
                    exact hK.out _ _ rfl (Below.refl _ _)
                  simp only [Act.put, List.setIfInBounds_toArray, List.set_cons_zero, List.set_cons_succ]
                  refine Tab.cons IsV.lasting (fun wx hx hd => ?_) (fun v64 => ?_)
                  · skip
                    have e61 : v61 = _ := (hd _ (.tail _ (.tail _ (.head _))) (by kernel_rfl) : (IsV (.bool true)) v61 wx)
                    subst e61
                    have e63 : v63 = _ := (hd _ (.head _) (by kernel_rfl) : (IsV (.int .i64 (most : Int))) v63 wx)
                    subst e63
                    clear hd
                    intro KK hK
                    go_simp
                    rw [show IntKind.i64.wrap (4 * (most : Int)) = 4 * (most : Int) from IntWalk.i64_in _ (by omega)]
                    exact hK.out _ _ rfl (Below.refl _ _)
                  simp only [Act.put, List.setIfInBounds_toArray, List.set_cons_zero, List.set_cons_succ]
                  refine Tab.cons IsV.lasting (fun wx hx hd => ?_) (fun v65 => ?_)
                  · skip
                    have e61 : v61 = _ := (hd _ (.tail _ (.tail _ (.tail _ (.head _)))) (by kernel_rfl) : (IsV (.bool true)) v61 wx)
                    subst e61
                    have e62 : v62 = _ := (hd _ (.tail _ (.tail _ (.head _))) (by kernel_rfl) : (IsV (.int .i64 (v2 : Int))) v62 wx)
                    subst e62
                    have e64 : v64 = _ := (hd _ (.head _) (by kernel_rfl) : (IsV (.int .i64 (4 * (most : Int)))) v64 wx)
                    subst e64
                    clear hd
                    intro KK hK
                    go_simp
                    exact hK.out _ _ rfl (Below.refl _ _)
                  simp only [Act.put, List.setIfInBounds_toArray, List.set_cons_zero, List.set_cons_succ]
                  refine Tab.cons IsV.lasting (fun wx hx hd => ?_) (fun v66 => ?_)
                  · skip
                    have e61 : v61 = _ := (hd _ (.tail _ (.tail _ (.tail _ (.tail _ (.head _))))) (by kernel_rfl) : (IsV (.bool true)) v61 wx)
                    subst e61
                    have e65 : v65 = _ := (hd _ (.head _) (by kernel_rfl) : (IsV (.bool false)) v65 wx)
                    subst e65
                    clear hd
                    intro KK hK
                    go_simp
                    exact hK.out _ _ rfl (Below.refl _ _)
                  simp only [Act.put, List.setIfInBounds_toArray, List.set_cons_zero, List.set_cons_succ]
                  refine Tab.cons IsV.lasting (fun wx hx hd => ?_) (fun v67 => ?_)
                  · skip
                    have e66 : v66 = _ := (hd _ (.head _) (by kernel_rfl) : (IsV (.bool false)) v66 wx)
                    subst e66
                    clear hd
                    intro KK hK
                    go_simp
                    exact hK.out _ _ rfl (Below.refl _ _)
                  simp only [Act.put, List.setIfInBounds_toArray, List.set_cons_zero, List.set_cons_succ]
                  refine Tab.cons IsV.lasting (fun wx hx hd => ?_) (fun v68 => ?_)
                  · skip
                    have e67 : v67 = _ := (hd _ (.head _) (by kernel_rfl) : (IsV (.bool false)) v67 wx)
                    subst e67
                    clear hd
                    intro KK hK
                    go_simp
                    exact hK.out _ _ rfl (Below.refl _ _)
                  simp only [Act.put, List.setIfInBounds_toArray, List.set_cons_zero, List.set_cons_succ]
                  refine Tab.cons IsV.lasting (fun wx hx hd => ?_) (fun v69 => ?_)
                  · skip
                    have e67 : v67 = _ := (hd _ (.tail _ (.head _)) (by kernel_rfl) : (IsV (.bool false)) v67 wx)
                    subst e67
                    have e68 : v68 = _ := (hd _ (.head _) (by kernel_rfl) : (IsV (.pointer (some ⟨w.heap.size, 0, none⟩))) v68 wx)
                    subst e68
                    clear hd
                    intro KK hK
                    have hcell0 := (hx.out.cell (p := ⟨w.heap.size, 0, none⟩) HZ.out).trans HC0.out
                    have hcell1 := (hx.out.cell (p := ⟨w.heap.size, 1, none⟩) HZ.out).trans HC1.out
                    go_simp
                    exact hK.out _ _ rfl (Below.refl _ _)
                  simp only [Act.put, List.setIfInBounds_toArray, List.set_cons_zero, List.set_cons_succ]
                  refine Tab.cons IsV.lasting (fun wx hx hd => ?_) (fun v70 => ?_)
                  · skip
                    have e67 : v67 = _ := (hd _ (.tail _ (.tail _ (.head _))) (by kernel_rfl) : (IsV (.bool false)) v67 wx)
                    subst e67
                    clear hd
                    intro KK hK
                    go_simp
                    exact hK.out _ _ rfl (Below.refl _ _)
                  simp only [Act.put, List.setIfInBounds_toArray, List.set_cons_zero, List.set_cons_succ]
                  refine Tab.cons IsV.lasting (fun wx hx hd => ?_) (fun v71 => ?_)
                  · skip
                    have e67 : v67 = _ := (hd _ (.tail _ (.tail _ (.tail _ (.head _)))) (by kernel_rfl) : (IsV (.bool false)) v67 wx)
                    subst e67
                    have e70 : v70 = _ := (hd _ (.head _) (by kernel_rfl) : (IsV (.pointer (some ⟨w.heap.size, 2, none⟩))) v70 wx)
                    subst e70
                    clear hd
                    intro KK hK
                    have hcell2 := (hx.out.cell (p := ⟨w.heap.size, 2, none⟩) HZ.out).trans HC2.out
                    go_simp
                    exact hK.out _ _ rfl (Below.refl _ _)
                  simp only [Act.put, List.setIfInBounds_toArray, List.set_cons_zero, List.set_cons_succ]
                  refine Tab.cons IsI.lasting (fun wx hx hd => ?_) (fun v72 => ?_)
                  · skip
                    have e67 : v67 = _ := (hd _ (.tail _ (.tail _ (.tail _ (.tail _ (.head _))))) (by kernel_rfl) : (IsV (.bool false)) v67 wx)
                    subst e67
                    have e71 : v71 = _ := (hd _ (.head _) (by kernel_rfl) : (IsV (.slice A n c)) v71 wx)
                    subst e71
                    clear hd
                    intro KK hK
                    go_simp
                    refine (counts_any _ A n c lens (h3.below hx.out) hn).mono ?_
                    rintro e w' ⟨A', n', c', rfl, h', hb'⟩
                    exact hK.out _ _ ⟨A', n', c', rfl, h'⟩ hb'
                  simp only [Act.put, List.setIfInBounds_toArray, List.set_cons_zero, List.set_cons_succ]
                  refine Tab.cons IsV.lasting (fun wx hx hd => ?_) (fun v73 => ?_)
                  · skip
                    have e67 : v67 = _ := (hd _ (.tail _ (.tail _ (.tail _ (.tail _ (.tail _ (.head _)))))) (by kernel_rfl) : (IsV (.bool false)) v67 wx)
                    subst e67
                    have e69 : v69 = _ := (hd _ (.tail _ (.tail _ (.tail _ (.head _)))) (by kernel_rfl) : (IsV (.agg #[.slice AW nW cW, .slice AE nE cE])) v69 wx)
                    subst e69
                    obtain ⟨A72, n72, c72, rfl, h72⟩ := (hd _ (.head _) (by kernel_rfl) : (IsI (natI lens)) v72 wx)
                    clear hd
                    intro KK hK
                    go_simp
                    refine (fits_any _ AW nW cW W AE nE cE ee (h1.below hx.out) (h2.below hx.out) A72 n72 c72 lens h72).mono ?_
                    rintro e w' ⟨rfl, hb'⟩
                    exact hK.out _ _ rfl hb'
                  simp only [Act.put, List.setIfInBounds_toArray, List.set_cons_zero, List.set_cons_succ]
                  refine Tab.cons IsV.lasting (fun wx hx hd => ?_) (fun v74 => ?_)
                  · skip
                    have e67 : v67 = _ := (hd _ (.tail _ (.tail _ (.tail _ (.tail _ (.tail _ (.tail _ (.head _))))))) (by kernel_rfl) : (IsV (.bool false)) v67 wx)
                    subst e67
                    have e73 : v73 = _ := (hd _ (.head _) (by kernel_rfl) : (IsV (.int .i64 (fitsV W ee lens))) v73 wx)
                    subst e73
                    clear hd
                    intro KK hK
                    go_simp
                    exact hK.out _ _ rfl (Below.refl _ _)
                  simp only [Act.put, List.setIfInBounds_toArray, List.set_cons_zero, List.set_cons_succ]
                  refine Tab.cons IsV.lasting (fun wx hx hd => ?_) (fun v75 => ?_)
                  · skip
                    have e67 : v67 = _ := (hd _ (.tail _ (.tail _ (.tail _ (.tail _ (.tail _ (.tail _ (.tail _ (.head _)))))))) (by kernel_rfl) : (IsV (.bool false)) v67 wx)
                    subst e67
                    have e74 : v74 = _ := (hd _ (.head _) (by kernel_rfl) : (IsV (.bool (fitsV W ee lens != 0))) v74 wx)
                    subst e74
                    clear hd
                    intro KK hK
                    go_simp
                    exact hK.out _ _ rfl (Below.refl _ _)
                  simp only [Act.put, List.setIfInBounds_toArray, List.set_cons_zero, List.set_cons_succ]
                  refine Tab.cons IsV.lasting (fun wx hx hd => ?_) (fun v4 => ?_)
                  · skip
                    have e75 : v75 = _ := (hd _ (.head _) (by kernel_rfl) : (IsV (.bool (fitsV W ee lens != 0))) v75 wx)
                    subst e75
                    clear hd
                    intro KK hK
                    go_simp
                    exact hK.out _ _ rfl (Below.refl _ _)
                  simp only [Act.put, List.setIfInBounds_toArray, List.set_cons_zero, List.set_cons_succ]
                  refine Tab.nil fun wx hx hd => ?_
                  have e4 : v4 = _ := (hd _ (.head _) : (IsV (.bool (fitsV W ee lens != 0))) v4 wx)
                  subst e4
                  clear hd
                  clear ha hb
                  go_wp2
                  go_ret
                  exact ⟨_, rfl, below_step hx.out hS⟩
              · have ha : decide ((v : Int) ≤ (most : Int)) = false := decide_eq_false (by omega)
                refine wp_region_tab 19 76 [IsV (.int .i64 (v : Int)), IsV (.int .i64 (most : Int)), IsV (.bool false), IsV (.bool false), IsV (undef), IsV (undef), IsV (undef), IsV (undef), IsV (.bool false), IsV (.bool false), IsV (.pointer (some ⟨w.heap.size, 0, none⟩)), IsV (.agg #[.slice AW nW cW, .slice AE nE cE]), IsV (.pointer (some ⟨w.heap.size, 2, none⟩)), IsV (.slice A n c), IsI (natI lens), IsV (.int .i64 (fitsV W ee lens)), IsV (.bool (fitsV W ee lens != 0)), IsV (.bool (fitsV W ee lens != 0)), IsV (.bool (fitsV W ee lens != 0))] (From W0) (by kernel_rfl) (by kernel_rfl) (by kernel_rfl) rfl From.lasts (From.drew (From.refl W0)) ?_
                simp only [List.take_succ_cons, List.drop_succ_cons, List.take_nil, List.drop_nil]
                refine Tab.cons IsV.lasting (fun wx hx hd => ?_) (fun v58 => ?_)
                · skip
                  clear hd
                  intro KK hK
                  go_simp
                  exact hK.out _ _ rfl (Below.refl _ _)
                simp only [Act.put, List.setIfInBounds_toArray, List.set_cons_zero, List.set_cons_succ]
                refine Tab.cons IsV.lasting (fun wx hx hd => ?_) (fun v59 => ?_)
                · skip
                  clear hd
                  intro KK hK
                  go_simp
                  exact hK.out _ _ rfl (Below.refl _ _)
                simp only [Act.put, List.setIfInBounds_toArray, List.set_cons_zero, List.set_cons_succ]
                refine Tab.cons IsV.lasting (fun wx hx hd => ?_) (fun v60 => ?_)
                · skip
                  have e58 : v58 = _ := (hd _ (.tail _ (.head _)) (by kernel_rfl) : (IsV (.int .i64 (v : Int))) v58 wx)
                  subst e58
                  have e59 : v59 = _ := (hd _ (.head _) (by kernel_rfl) : (IsV (.int .i64 (most : Int))) v59 wx)
                  subst e59
                  clear hd
                  intro KK hK
                  go_simp
                  exact hK.out _ _ rfl (Below.refl _ _)
                simp only [Act.put, List.setIfInBounds_toArray, List.set_cons_zero, List.set_cons_succ]
                refine Tab.cons IsV.lasting (fun wx hx hd => ?_) (fun v61 => ?_)
                · skip
                  have e60 : v60 = _ := (hd _ (.head _) (by kernel_rfl) : (IsV (.bool false)) v60 wx)
                  subst e60
                  clear hd
                  intro KK hK
                  go_simp
                  exact hK.out _ _ rfl (Below.refl _ _)
                simp only [Act.put, List.setIfInBounds_toArray, List.set_cons_zero, List.set_cons_succ]
                refine Tab.cons IsV.lasting (fun wx hx hd => ?_) (fun v62 => ?_)
                · skip
                  have e61 : v61 = _ := (hd _ (.head _) (by kernel_rfl) : (IsV (.bool false)) v61 wx)
                  subst e61
                  clear hd
                  intro KK hK
                  go_simp
                  exact hK.out _ _ rfl (Below.refl _ _)
                simp only [Act.put, List.setIfInBounds_toArray, List.set_cons_zero, List.set_cons_succ]
                refine Tab.cons IsV.lasting (fun wx hx hd => ?_) (fun v63 => ?_)
                · skip
                  have e61 : v61 = _ := (hd _ (.tail _ (.head _)) (by kernel_rfl) : (IsV (.bool false)) v61 wx)
                  subst e61
                  clear hd
                  intro KK hK
                  go_simp
                  exact hK.out _ _ rfl (Below.refl _ _)
                simp only [Act.put, List.setIfInBounds_toArray, List.set_cons_zero, List.set_cons_succ]
                refine Tab.cons IsV.lasting (fun wx hx hd => ?_) (fun v64 => ?_)
                · skip
                  have e61 : v61 = _ := (hd _ (.tail _ (.tail _ (.head _))) (by kernel_rfl) : (IsV (.bool false)) v61 wx)
                  subst e61
                  clear hd
                  intro KK hK
                  go_simp
                  exact hK.out _ _ rfl (Below.refl _ _)
                simp only [Act.put, List.setIfInBounds_toArray, List.set_cons_zero, List.set_cons_succ]
                refine Tab.cons IsV.lasting (fun wx hx hd => ?_) (fun v65 => ?_)
                · skip
                  have e61 : v61 = _ := (hd _ (.tail _ (.tail _ (.tail _ (.head _)))) (by kernel_rfl) : (IsV (.bool false)) v61 wx)
                  subst e61
                  clear hd
                  intro KK hK
                  go_simp
                  exact hK.out _ _ rfl (Below.refl _ _)
                simp only [Act.put, List.setIfInBounds_toArray, List.set_cons_zero, List.set_cons_succ]
                refine Tab.cons IsV.lasting (fun wx hx hd => ?_) (fun v66 => ?_)
                · skip
                  have e61 : v61 = _ := (hd _ (.tail _ (.tail _ (.tail _ (.tail _ (.head _))))) (by kernel_rfl) : (IsV (.bool false)) v61 wx)
                  subst e61
                  have e65 : v65 = _ := (hd _ (.head _) (by kernel_rfl) : (IsV (undef)) v65 wx)
                  subst e65
                  clear hd
                  intro KK hK
                  go_simp
                  exact hK.out _ _ rfl (Below.refl _ _)
                simp only [Act.put, List.setIfInBounds_toArray, List.set_cons_zero, List.set_cons_succ]
                refine Tab.cons IsV.lasting (fun wx hx hd => ?_) (fun v67 => ?_)
                · skip
                  have e66 : v66 = _ := (hd _ (.head _) (by kernel_rfl) : (IsV (.bool false)) v66 wx)
                  subst e66
                  clear hd
                  intro KK hK
                  go_simp
                  exact hK.out _ _ rfl (Below.refl _ _)
                simp only [Act.put, List.setIfInBounds_toArray, List.set_cons_zero, List.set_cons_succ]
                refine Tab.cons IsV.lasting (fun wx hx hd => ?_) (fun v68 => ?_)
                · skip
                  have e67 : v67 = _ := (hd _ (.head _) (by kernel_rfl) : (IsV (.bool false)) v67 wx)
                  subst e67
                  clear hd
                  intro KK hK
                  go_simp
                  exact hK.out _ _ rfl (Below.refl _ _)
                simp only [Act.put, List.setIfInBounds_toArray, List.set_cons_zero, List.set_cons_succ]
                refine Tab.cons IsV.lasting (fun wx hx hd => ?_) (fun v69 => ?_)
                · skip
                  have e67 : v67 = _ := (hd _ (.tail _ (.head _)) (by kernel_rfl) : (IsV (.bool false)) v67 wx)
                  subst e67
                  have e68 : v68 = _ := (hd _ (.head _) (by kernel_rfl) : (IsV (.pointer (some ⟨w.heap.size, 0, none⟩))) v68 wx)
                  subst e68
                  clear hd
                  intro KK hK
                  have hcell0 := (hx.out.cell (p := ⟨w.heap.size, 0, none⟩) HZ.out).trans HC0.out
                  have hcell1 := (hx.out.cell (p := ⟨w.heap.size, 1, none⟩) HZ.out).trans HC1.out
                  go_simp
                  exact hK.out _ _ rfl (Below.refl _ _)
                simp only [Act.put, List.setIfInBounds_toArray, List.set_cons_zero, List.set_cons_succ]
                refine Tab.cons IsV.lasting (fun wx hx hd => ?_) (fun v70 => ?_)
                · skip
                  have e67 : v67 = _ := (hd _ (.tail _ (.tail _ (.head _))) (by kernel_rfl) : (IsV (.bool false)) v67 wx)
                  subst e67
                  clear hd
                  intro KK hK
                  go_simp
                  exact hK.out _ _ rfl (Below.refl _ _)
                simp only [Act.put, List.setIfInBounds_toArray, List.set_cons_zero, List.set_cons_succ]
                refine Tab.cons IsV.lasting (fun wx hx hd => ?_) (fun v71 => ?_)
                · skip
                  have e67 : v67 = _ := (hd _ (.tail _ (.tail _ (.tail _ (.head _)))) (by kernel_rfl) : (IsV (.bool false)) v67 wx)
                  subst e67
                  have e70 : v70 = _ := (hd _ (.head _) (by kernel_rfl) : (IsV (.pointer (some ⟨w.heap.size, 2, none⟩))) v70 wx)
                  subst e70
                  clear hd
                  intro KK hK
                  have hcell2 := (hx.out.cell (p := ⟨w.heap.size, 2, none⟩) HZ.out).trans HC2.out
                  go_simp
                  exact hK.out _ _ rfl (Below.refl _ _)
                simp only [Act.put, List.setIfInBounds_toArray, List.set_cons_zero, List.set_cons_succ]
                refine Tab.cons IsI.lasting (fun wx hx hd => ?_) (fun v72 => ?_)
                · skip
                  have e67 : v67 = _ := (hd _ (.tail _ (.tail _ (.tail _ (.tail _ (.head _))))) (by kernel_rfl) : (IsV (.bool false)) v67 wx)
                  subst e67
                  have e71 : v71 = _ := (hd _ (.head _) (by kernel_rfl) : (IsV (.slice A n c)) v71 wx)
                  subst e71
                  clear hd
                  intro KK hK
                  go_simp
                  refine (counts_any _ A n c lens (h3.below hx.out) hn).mono ?_
                  rintro e w' ⟨A', n', c', rfl, h', hb'⟩
                  exact hK.out _ _ ⟨A', n', c', rfl, h'⟩ hb'
                simp only [Act.put, List.setIfInBounds_toArray, List.set_cons_zero, List.set_cons_succ]
                refine Tab.cons IsV.lasting (fun wx hx hd => ?_) (fun v73 => ?_)
                · skip
                  have e67 : v67 = _ := (hd _ (.tail _ (.tail _ (.tail _ (.tail _ (.tail _ (.head _)))))) (by kernel_rfl) : (IsV (.bool false)) v67 wx)
                  subst e67
                  have e69 : v69 = _ := (hd _ (.tail _ (.tail _ (.tail _ (.head _)))) (by kernel_rfl) : (IsV (.agg #[.slice AW nW cW, .slice AE nE cE])) v69 wx)
                  subst e69
                  obtain ⟨A72, n72, c72, rfl, h72⟩ := (hd _ (.head _) (by kernel_rfl) : (IsI (natI lens)) v72 wx)
                  clear hd
                  intro KK hK
                  go_simp
                  refine (fits_any _ AW nW cW W AE nE cE ee (h1.below hx.out) (h2.below hx.out) A72 n72 c72 lens h72).mono ?_
                  rintro e w' ⟨rfl, hb'⟩
                  exact hK.out _ _ rfl hb'
                simp only [Act.put, List.setIfInBounds_toArray, List.set_cons_zero, List.set_cons_succ]
                refine Tab.cons IsV.lasting (fun wx hx hd => ?_) (fun v74 => ?_)
                · skip
                  have e67 : v67 = _ := (hd _ (.tail _ (.tail _ (.tail _ (.tail _ (.tail _ (.tail _ (.head _))))))) (by kernel_rfl) : (IsV (.bool false)) v67 wx)
                  subst e67
                  have e73 : v73 = _ := (hd _ (.head _) (by kernel_rfl) : (IsV (.int .i64 (fitsV W ee lens))) v73 wx)
                  subst e73
                  clear hd
                  intro KK hK
                  go_simp
                  exact hK.out _ _ rfl (Below.refl _ _)
                simp only [Act.put, List.setIfInBounds_toArray, List.set_cons_zero, List.set_cons_succ]
                refine Tab.cons IsV.lasting (fun wx hx hd => ?_) (fun v75 => ?_)
                · skip
                  have e67 : v67 = _ := (hd _ (.tail _ (.tail _ (.tail _ (.tail _ (.tail _ (.tail _ (.tail _ (.head _)))))))) (by kernel_rfl) : (IsV (.bool false)) v67 wx)
                  subst e67
                  have e74 : v74 = _ := (hd _ (.head _) (by kernel_rfl) : (IsV (.bool (fitsV W ee lens != 0))) v74 wx)
                  subst e74
                  clear hd
                  intro KK hK
                  go_simp
                  exact hK.out _ _ rfl (Below.refl _ _)
                simp only [Act.put, List.setIfInBounds_toArray, List.set_cons_zero, List.set_cons_succ]
                refine Tab.cons IsV.lasting (fun wx hx hd => ?_) (fun v4 => ?_)
                · skip
                  have e75 : v75 = _ := (hd _ (.head _) (by kernel_rfl) : (IsV (.bool (fitsV W ee lens != 0))) v75 wx)
                  subst e75
                  clear hd
                  intro KK hK
                  go_simp
                  exact hK.out _ _ rfl (Below.refl _ _)
                simp only [Act.put, List.setIfInBounds_toArray, List.set_cons_zero, List.set_cons_succ]
                refine Tab.nil fun wx hx hd => ?_
                have e4 : v4 = _ := (hd _ (.head _) : (IsV (.bool (fitsV W ee lens != 0))) v4 wx)
                subst e4
                clear hd
                clear ha
                go_wp2
                go_ret
                exact ⟨_, rfl, below_step hx.out hS⟩
            · have hd1 : decide ((i2 : Int) < (nW : Int)) = false := decide_eq_false (by omega)
              clear hnot2
              go_wp2_with fail
              clear hd1 hl1
              by_cases hA : v ≤ most
              · by_cases hB : v2 ≤ 4 * most
                · have ha : decide ((v : Int) ≤ (most : Int)) = true := decide_eq_true (by omega)
                  have hb : decide ((v2 : Int) ≤ 4 * (most : Int)) = true := decide_eq_true (by omega)
                  go_quiet (fail)
                  clear ha hb
                  go_wp2
                  go_ret
                  exact ⟨_, rfl, below_drewN hS _⟩
                · have ha : decide ((v : Int) ≤ (most : Int)) = true := decide_eq_true (by omega)
                  have hb : decide ((v2 : Int) ≤ 4 * (most : Int)) = false := decide_eq_false (by omega)
                  refine wp_region_tab 19 76 [IsV (.int .i64 (v : Int)), IsV (.int .i64 (most : Int)), IsV (.bool true), IsV (.bool true), IsV (.int .i64 (v2 : Int)), IsV (.int .i64 (most : Int)), IsV (.int .i64 (4 * (most : Int))), IsV (.bool false), IsV (.bool false), IsV (.bool false), IsV (.pointer (some ⟨w.heap.size, 0, none⟩)), IsV (.agg #[.slice AW nW cW, .slice AE nE cE]), IsV (.pointer (some ⟨w.heap.size, 2, none⟩)), IsV (.slice A n c), IsI (natI lens), IsV (.int .i64 (fitsV W ee lens)), IsV (.bool (fitsV W ee lens != 0)), IsV (.bool (fitsV W ee lens != 0)), IsV (.bool (fitsV W ee lens != 0))] (From W0) (by kernel_rfl) (by kernel_rfl) (by kernel_rfl) rfl From.lasts (From.drew (From.refl W0)) ?_
                  simp only [List.take_succ_cons, List.drop_succ_cons, List.take_nil, List.drop_nil]
                  refine Tab.cons IsV.lasting (fun wx hx hd => ?_) (fun v58 => ?_)
                  · skip
                    clear hd
                    intro KK hK
                    go_simp
                    exact hK.out _ _ rfl (Below.refl _ _)
                  simp only [Act.put, List.setIfInBounds_toArray, List.set_cons_zero, List.set_cons_succ]
                  refine Tab.cons IsV.lasting (fun wx hx hd => ?_) (fun v59 => ?_)
                  · skip
                    clear hd
                    intro KK hK
                    go_simp
                    exact hK.out _ _ rfl (Below.refl _ _)
                  simp only [Act.put, List.setIfInBounds_toArray, List.set_cons_zero, List.set_cons_succ]
                  refine Tab.cons IsV.lasting (fun wx hx hd => ?_) (fun v60 => ?_)
                  · skip
                    have e58 : v58 = _ := (hd _ (.tail _ (.head _)) (by kernel_rfl) : (IsV (.int .i64 (v : Int))) v58 wx)
                    subst e58
                    have e59 : v59 = _ := (hd _ (.head _) (by kernel_rfl) : (IsV (.int .i64 (most : Int))) v59 wx)
                    subst e59
                    clear hd
                    intro KK hK
                    go_simp
                    exact hK.out _ _ rfl (Below.refl _ _)
                  simp only [Act.put, List.setIfInBounds_toArray, List.set_cons_zero, List.set_cons_succ]
                  refine Tab.cons IsV.lasting (fun wx hx hd => ?_) (fun v61 => ?_)
                  · skip
                    have e60 : v60 = _ := (hd _ (.head _) (by kernel_rfl) : (IsV (.bool true)) v60 wx)
                    subst e60
                    clear hd
                    intro KK hK
                    go_simp
                    exact hK.out _ _ rfl (Below.refl _ _)
                  simp only [Act.put, List.setIfInBounds_toArray, List.set_cons_zero, List.set_cons_succ]
                  refine Tab.cons IsV.lasting (fun wx hx hd => ?_) (fun v62 => ?_)
                  · skip
                    have e61 : v61 = _ := (hd _ (.head _) (by kernel_rfl) : (IsV (.bool true)) v61 wx)
                    subst e61
                    clear hd
                    intro KK hK
                    go_simp
                    exact hK.out _ _ rfl (Below.refl _ _)
                  simp only [Act.put, List.setIfInBounds_toArray, List.set_cons_zero, List.set_cons_succ]
                  refine Tab.cons IsV.lasting (fun wx hx hd => ?_) (fun v63 => ?_)
                  · skip
                    have e61 : v61 = _ := (hd _ (.tail _ (.head _)) (by kernel_rfl) : (IsV (.bool true)) v61 wx)
                    subst e61
                    clear hd
                    intro KK hK
                    go_simp
                    exact hK.out _ _ rfl (Below.refl _ _)
                  simp only [Act.put, List.setIfInBounds_toArray, List.set_cons_zero, List.set_cons_succ]
                  refine Tab.cons IsV.lasting (fun wx hx hd => ?_) (fun v64 => ?_)
                  · skip
                    have e61 : v61 = _ := (hd _ (.tail _ (.tail _ (.head _))) (by kernel_rfl) : (IsV (.bool true)) v61 wx)
                    subst e61
                    have e63 : v63 = _ := (hd _ (.head _) (by kernel_rfl) : (IsV (.int .i64 (most : Int))) v63 wx)
                    subst e63
                    clear hd
                    intro KK hK
                    go_simp
                    rw [show IntKind.i64.wrap (4 * (most : Int)) = 4 * (most : Int) from IntWalk.i64_in _ (by omega)]
                    exact hK.out _ _ rfl (Below.refl _ _)
                  simp only [Act.put, List.setIfInBounds_toArray, List.set_cons_zero, List.set_cons_succ]
                  refine Tab.cons IsV.lasting (fun wx hx hd => ?_) (fun v65 => ?_)
                  · skip
                    have e61 : v61 = _ := (hd _ (.tail _ (.tail _ (.tail _ (.head _)))) (by kernel_rfl) : (IsV (.bool true)) v61 wx)
                    subst e61
                    have e62 : v62 = _ := (hd _ (.tail _ (.tail _ (.head _))) (by kernel_rfl) : (IsV (.int .i64 (v2 : Int))) v62 wx)
                    subst e62
                    have e64 : v64 = _ := (hd _ (.head _) (by kernel_rfl) : (IsV (.int .i64 (4 * (most : Int)))) v64 wx)
                    subst e64
                    clear hd
                    intro KK hK
                    go_simp
                    exact hK.out _ _ rfl (Below.refl _ _)
                  simp only [Act.put, List.setIfInBounds_toArray, List.set_cons_zero, List.set_cons_succ]
                  refine Tab.cons IsV.lasting (fun wx hx hd => ?_) (fun v66 => ?_)
                  · skip
                    have e61 : v61 = _ := (hd _ (.tail _ (.tail _ (.tail _ (.tail _ (.head _))))) (by kernel_rfl) : (IsV (.bool true)) v61 wx)
                    subst e61
                    have e65 : v65 = _ := (hd _ (.head _) (by kernel_rfl) : (IsV (.bool false)) v65 wx)
                    subst e65
                    clear hd
                    intro KK hK
                    go_simp
                    exact hK.out _ _ rfl (Below.refl _ _)
                  simp only [Act.put, List.setIfInBounds_toArray, List.set_cons_zero, List.set_cons_succ]
                  refine Tab.cons IsV.lasting (fun wx hx hd => ?_) (fun v67 => ?_)
                  · skip
                    have e66 : v66 = _ := (hd _ (.head _) (by kernel_rfl) : (IsV (.bool false)) v66 wx)
                    subst e66
                    clear hd
                    intro KK hK
                    go_simp
                    exact hK.out _ _ rfl (Below.refl _ _)
                  simp only [Act.put, List.setIfInBounds_toArray, List.set_cons_zero, List.set_cons_succ]
                  refine Tab.cons IsV.lasting (fun wx hx hd => ?_) (fun v68 => ?_)
                  · skip
                    have e67 : v67 = _ := (hd _ (.head _) (by kernel_rfl) : (IsV (.bool false)) v67 wx)
                    subst e67
                    clear hd
                    intro KK hK
                    go_simp
                    exact hK.out _ _ rfl (Below.refl _ _)
                  simp only [Act.put, List.setIfInBounds_toArray, List.set_cons_zero, List.set_cons_succ]
                  refine Tab.cons IsV.lasting (fun wx hx hd => ?_) (fun v69 => ?_)
                  · skip
                    have e67 : v67 = _ := (hd _ (.tail _ (.head _)) (by kernel_rfl) : (IsV (.bool false)) v67 wx)
                    subst e67
                    have e68 : v68 = _ := (hd _ (.head _) (by kernel_rfl) : (IsV (.pointer (some ⟨w.heap.size, 0, none⟩))) v68 wx)
                    subst e68
                    clear hd
                    intro KK hK
                    have hcell0 := (hx.out.cell (p := ⟨w.heap.size, 0, none⟩) HZ.out).trans HC0.out
                    have hcell1 := (hx.out.cell (p := ⟨w.heap.size, 1, none⟩) HZ.out).trans HC1.out
                    go_simp
                    exact hK.out _ _ rfl (Below.refl _ _)
                  simp only [Act.put, List.setIfInBounds_toArray, List.set_cons_zero, List.set_cons_succ]
                  refine Tab.cons IsV.lasting (fun wx hx hd => ?_) (fun v70 => ?_)
                  · skip
                    have e67 : v67 = _ := (hd _ (.tail _ (.tail _ (.head _))) (by kernel_rfl) : (IsV (.bool false)) v67 wx)
                    subst e67
                    clear hd
                    intro KK hK
                    go_simp
                    exact hK.out _ _ rfl (Below.refl _ _)
                  simp only [Act.put, List.setIfInBounds_toArray, List.set_cons_zero, List.set_cons_succ]
                  refine Tab.cons IsV.lasting (fun wx hx hd => ?_) (fun v71 => ?_)
                  · skip
                    have e67 : v67 = _ := (hd _ (.tail _ (.tail _ (.tail _ (.head _)))) (by kernel_rfl) : (IsV (.bool false)) v67 wx)
                    subst e67
                    have e70 : v70 = _ := (hd _ (.head _) (by kernel_rfl) : (IsV (.pointer (some ⟨w.heap.size, 2, none⟩))) v70 wx)
                    subst e70
                    clear hd
                    intro KK hK
                    have hcell2 := (hx.out.cell (p := ⟨w.heap.size, 2, none⟩) HZ.out).trans HC2.out
                    go_simp
                    exact hK.out _ _ rfl (Below.refl _ _)
                  simp only [Act.put, List.setIfInBounds_toArray, List.set_cons_zero, List.set_cons_succ]
                  refine Tab.cons IsI.lasting (fun wx hx hd => ?_) (fun v72 => ?_)
                  · skip
                    have e67 : v67 = _ := (hd _ (.tail _ (.tail _ (.tail _ (.tail _ (.head _))))) (by kernel_rfl) : (IsV (.bool false)) v67 wx)
                    subst e67
                    have e71 : v71 = _ := (hd _ (.head _) (by kernel_rfl) : (IsV (.slice A n c)) v71 wx)
                    subst e71
                    clear hd
                    intro KK hK
                    go_simp
                    refine (counts_any _ A n c lens (h3.below hx.out) hn).mono ?_
                    rintro e w' ⟨A', n', c', rfl, h', hb'⟩
                    exact hK.out _ _ ⟨A', n', c', rfl, h'⟩ hb'
                  simp only [Act.put, List.setIfInBounds_toArray, List.set_cons_zero, List.set_cons_succ]
                  refine Tab.cons IsV.lasting (fun wx hx hd => ?_) (fun v73 => ?_)
                  · skip
                    have e67 : v67 = _ := (hd _ (.tail _ (.tail _ (.tail _ (.tail _ (.tail _ (.head _)))))) (by kernel_rfl) : (IsV (.bool false)) v67 wx)
                    subst e67
                    have e69 : v69 = _ := (hd _ (.tail _ (.tail _ (.tail _ (.head _)))) (by kernel_rfl) : (IsV (.agg #[.slice AW nW cW, .slice AE nE cE])) v69 wx)
                    subst e69
                    obtain ⟨A72, n72, c72, rfl, h72⟩ := (hd _ (.head _) (by kernel_rfl) : (IsI (natI lens)) v72 wx)
                    clear hd
                    intro KK hK
                    go_simp
                    refine (fits_any _ AW nW cW W AE nE cE ee (h1.below hx.out) (h2.below hx.out) A72 n72 c72 lens h72).mono ?_
                    rintro e w' ⟨rfl, hb'⟩
                    exact hK.out _ _ rfl hb'
                  simp only [Act.put, List.setIfInBounds_toArray, List.set_cons_zero, List.set_cons_succ]
                  refine Tab.cons IsV.lasting (fun wx hx hd => ?_) (fun v74 => ?_)
                  · skip
                    have e67 : v67 = _ := (hd _ (.tail _ (.tail _ (.tail _ (.tail _ (.tail _ (.tail _ (.head _))))))) (by kernel_rfl) : (IsV (.bool false)) v67 wx)
                    subst e67
                    have e73 : v73 = _ := (hd _ (.head _) (by kernel_rfl) : (IsV (.int .i64 (fitsV W ee lens))) v73 wx)
                    subst e73
                    clear hd
                    intro KK hK
                    go_simp
                    exact hK.out _ _ rfl (Below.refl _ _)
                  simp only [Act.put, List.setIfInBounds_toArray, List.set_cons_zero, List.set_cons_succ]
                  refine Tab.cons IsV.lasting (fun wx hx hd => ?_) (fun v75 => ?_)
                  · skip
                    have e67 : v67 = _ := (hd _ (.tail _ (.tail _ (.tail _ (.tail _ (.tail _ (.tail _ (.tail _ (.head _)))))))) (by kernel_rfl) : (IsV (.bool false)) v67 wx)
                    subst e67
                    have e74 : v74 = _ := (hd _ (.head _) (by kernel_rfl) : (IsV (.bool (fitsV W ee lens != 0))) v74 wx)
                    subst e74
                    clear hd
                    intro KK hK
                    go_simp
                    exact hK.out _ _ rfl (Below.refl _ _)
                  simp only [Act.put, List.setIfInBounds_toArray, List.set_cons_zero, List.set_cons_succ]
                  refine Tab.cons IsV.lasting (fun wx hx hd => ?_) (fun v4 => ?_)
                  · skip
                    have e75 : v75 = _ := (hd _ (.head _) (by kernel_rfl) : (IsV (.bool (fitsV W ee lens != 0))) v75 wx)
                    subst e75
                    clear hd
                    intro KK hK
                    go_simp
                    exact hK.out _ _ rfl (Below.refl _ _)
                  simp only [Act.put, List.setIfInBounds_toArray, List.set_cons_zero, List.set_cons_succ]
                  refine Tab.nil fun wx hx hd => ?_
                  have e4 : v4 = _ := (hd _ (.head _) : (IsV (.bool (fitsV W ee lens != 0))) v4 wx)
                  subst e4
                  clear hd
                  clear ha hb
                  go_wp2
                  go_ret
                  exact ⟨_, rfl, below_step hx.out hS⟩
              · have ha : decide ((v : Int) ≤ (most : Int)) = false := decide_eq_false (by omega)
                refine wp_region_tab 19 76 [IsV (.int .i64 (v : Int)), IsV (.int .i64 (most : Int)), IsV (.bool false), IsV (.bool false), IsV (undef), IsV (undef), IsV (undef), IsV (undef), IsV (.bool false), IsV (.bool false), IsV (.pointer (some ⟨w.heap.size, 0, none⟩)), IsV (.agg #[.slice AW nW cW, .slice AE nE cE]), IsV (.pointer (some ⟨w.heap.size, 2, none⟩)), IsV (.slice A n c), IsI (natI lens), IsV (.int .i64 (fitsV W ee lens)), IsV (.bool (fitsV W ee lens != 0)), IsV (.bool (fitsV W ee lens != 0)), IsV (.bool (fitsV W ee lens != 0))] (From W0) (by kernel_rfl) (by kernel_rfl) (by kernel_rfl) rfl From.lasts (From.drew (From.refl W0)) ?_
                simp only [List.take_succ_cons, List.drop_succ_cons, List.take_nil, List.drop_nil]
                refine Tab.cons IsV.lasting (fun wx hx hd => ?_) (fun v58 => ?_)
                · skip
                  clear hd
                  intro KK hK
                  go_simp
                  exact hK.out _ _ rfl (Below.refl _ _)
                simp only [Act.put, List.setIfInBounds_toArray, List.set_cons_zero, List.set_cons_succ]
                refine Tab.cons IsV.lasting (fun wx hx hd => ?_) (fun v59 => ?_)
                · skip
                  clear hd
                  intro KK hK
                  go_simp
                  exact hK.out _ _ rfl (Below.refl _ _)
                simp only [Act.put, List.setIfInBounds_toArray, List.set_cons_zero, List.set_cons_succ]
                refine Tab.cons IsV.lasting (fun wx hx hd => ?_) (fun v60 => ?_)
                · skip
                  have e58 : v58 = _ := (hd _ (.tail _ (.head _)) (by kernel_rfl) : (IsV (.int .i64 (v : Int))) v58 wx)
                  subst e58
                  have e59 : v59 = _ := (hd _ (.head _) (by kernel_rfl) : (IsV (.int .i64 (most : Int))) v59 wx)
                  subst e59
                  clear hd
                  intro KK hK
                  go_simp
                  exact hK.out _ _ rfl (Below.refl _ _)
                simp only [Act.put, List.setIfInBounds_toArray, List.set_cons_zero, List.set_cons_succ]
                refine Tab.cons IsV.lasting (fun wx hx hd => ?_) (fun v61 => ?_)
                · skip
                  have e60 : v60 = _ := (hd _ (.head _) (by kernel_rfl) : (IsV (.bool false)) v60 wx)
                  subst e60
                  clear hd
                  intro KK hK
                  go_simp
                  exact hK.out _ _ rfl (Below.refl _ _)
                simp only [Act.put, List.setIfInBounds_toArray, List.set_cons_zero, List.set_cons_succ]
                refine Tab.cons IsV.lasting (fun wx hx hd => ?_) (fun v62 => ?_)
                · skip
                  have e61 : v61 = _ := (hd _ (.head _) (by kernel_rfl) : (IsV (.bool false)) v61 wx)
                  subst e61
                  clear hd
                  intro KK hK
                  go_simp
                  exact hK.out _ _ rfl (Below.refl _ _)
                simp only [Act.put, List.setIfInBounds_toArray, List.set_cons_zero, List.set_cons_succ]
                refine Tab.cons IsV.lasting (fun wx hx hd => ?_) (fun v63 => ?_)
                · skip
                  have e61 : v61 = _ := (hd _ (.tail _ (.head _)) (by kernel_rfl) : (IsV (.bool false)) v61 wx)
                  subst e61
                  clear hd
                  intro KK hK
                  go_simp
                  exact hK.out _ _ rfl (Below.refl _ _)
                simp only [Act.put, List.setIfInBounds_toArray, List.set_cons_zero, List.set_cons_succ]
                refine Tab.cons IsV.lasting (fun wx hx hd => ?_) (fun v64 => ?_)
                · skip
                  have e61 : v61 = _ := (hd _ (.tail _ (.tail _ (.head _))) (by kernel_rfl) : (IsV (.bool false)) v61 wx)
                  subst e61
                  clear hd
                  intro KK hK
                  go_simp
                  exact hK.out _ _ rfl (Below.refl _ _)
                simp only [Act.put, List.setIfInBounds_toArray, List.set_cons_zero, List.set_cons_succ]
                refine Tab.cons IsV.lasting (fun wx hx hd => ?_) (fun v65 => ?_)
                · skip
                  have e61 : v61 = _ := (hd _ (.tail _ (.tail _ (.tail _ (.head _)))) (by kernel_rfl) : (IsV (.bool false)) v61 wx)
                  subst e61
                  clear hd
                  intro KK hK
                  go_simp
                  exact hK.out _ _ rfl (Below.refl _ _)
                simp only [Act.put, List.setIfInBounds_toArray, List.set_cons_zero, List.set_cons_succ]
                refine Tab.cons IsV.lasting (fun wx hx hd => ?_) (fun v66 => ?_)
                · skip
                  have e61 : v61 = _ := (hd _ (.tail _ (.tail _ (.tail _ (.tail _ (.head _))))) (by kernel_rfl) : (IsV (.bool false)) v61 wx)
                  subst e61
                  have e65 : v65 = _ := (hd _ (.head _) (by kernel_rfl) : (IsV (undef)) v65 wx)
                  subst e65
                  clear hd
                  intro KK hK
                  go_simp
                  exact hK.out _ _ rfl (Below.refl _ _)
                simp only [Act.put, List.setIfInBounds_toArray, List.set_cons_zero, List.set_cons_succ]
                refine Tab.cons IsV.lasting (fun wx hx hd => ?_) (fun v67 => ?_)
                · skip
                  have e66 : v66 = _ := (hd _ (.head _) (by kernel_rfl) : (IsV (.bool false)) v66 wx)
                  subst e66
                  clear hd
                  intro KK hK
                  go_simp
                  exact hK.out _ _ rfl (Below.refl _ _)
                simp only [Act.put, List.setIfInBounds_toArray, List.set_cons_zero, List.set_cons_succ]
                refine Tab.cons IsV.lasting (fun wx hx hd => ?_) (fun v68 => ?_)
                · skip
                  have e67 : v67 = _ := (hd _ (.head _) (by kernel_rfl) : (IsV (.bool false)) v67 wx)
                  subst e67
                  clear hd
                  intro KK hK
                  go_simp
                  exact hK.out _ _ rfl (Below.refl _ _)
                simp only [Act.put, List.setIfInBounds_toArray, List.set_cons_zero, List.set_cons_succ]
                refine Tab.cons IsV.lasting (fun wx hx hd => ?_) (fun v69 => ?_)
                · skip
                  have e67 : v67 = _ := (hd _ (.tail _ (.head _)) (by kernel_rfl) : (IsV (.bool false)) v67 wx)
                  subst e67
                  have e68 : v68 = _ := (hd _ (.head _) (by kernel_rfl) : (IsV (.pointer (some ⟨w.heap.size, 0, none⟩))) v68 wx)
                  subst e68
                  clear hd
                  intro KK hK
                  have hcell0 := (hx.out.cell (p := ⟨w.heap.size, 0, none⟩) HZ.out).trans HC0.out
                  have hcell1 := (hx.out.cell (p := ⟨w.heap.size, 1, none⟩) HZ.out).trans HC1.out
                  go_simp
                  exact hK.out _ _ rfl (Below.refl _ _)
                simp only [Act.put, List.setIfInBounds_toArray, List.set_cons_zero, List.set_cons_succ]
                refine Tab.cons IsV.lasting (fun wx hx hd => ?_) (fun v70 => ?_)
                · skip
                  have e67 : v67 = _ := (hd _ (.tail _ (.tail _ (.head _))) (by kernel_rfl) : (IsV (.bool false)) v67 wx)
                  subst e67
                  clear hd
                  intro KK hK
                  go_simp
                  exact hK.out _ _ rfl (Below.refl _ _)
                simp only [Act.put, List.setIfInBounds_toArray, List.set_cons_zero, List.set_cons_succ]
                refine Tab.cons IsV.lasting (fun wx hx hd => ?_) (fun v71 => ?_)
                · skip
                  have e67 : v67 = _ := (hd _ (.tail _ (.tail _ (.tail _ (.head _)))) (by kernel_rfl) : (IsV (.bool false)) v67 wx)
                  subst e67
                  have e70 : v70 = _ := (hd _ (.head _) (by kernel_rfl) : (IsV (.pointer (some ⟨w.heap.size, 2, none⟩))) v70 wx)
                  subst e70
                  clear hd
                  intro KK hK
                  have hcell2 := (hx.out.cell (p := ⟨w.heap.size, 2, none⟩) HZ.out).trans HC2.out
                  go_simp
                  exact hK.out _ _ rfl (Below.refl _ _)
                simp only [Act.put, List.setIfInBounds_toArray, List.set_cons_zero, List.set_cons_succ]
                refine Tab.cons IsI.lasting (fun wx hx hd => ?_) (fun v72 => ?_)
                · skip
                  have e67 : v67 = _ := (hd _ (.tail _ (.tail _ (.tail _ (.tail _ (.head _))))) (by kernel_rfl) : (IsV (.bool false)) v67 wx)
                  subst e67
                  have e71 : v71 = _ := (hd _ (.head _) (by kernel_rfl) : (IsV (.slice A n c)) v71 wx)
                  subst e71
                  clear hd
                  intro KK hK
                  go_simp
                  refine (counts_any _ A n c lens (h3.below hx.out) hn).mono ?_
                  rintro e w' ⟨A', n', c', rfl, h', hb'⟩
                  exact hK.out _ _ ⟨A', n', c', rfl, h'⟩ hb'
                simp only [Act.put, List.setIfInBounds_toArray, List.set_cons_zero, List.set_cons_succ]
                refine Tab.cons IsV.lasting (fun wx hx hd => ?_) (fun v73 => ?_)
                · skip
                  have e67 : v67 = _ := (hd _ (.tail _ (.tail _ (.tail _ (.tail _ (.tail _ (.head _)))))) (by kernel_rfl) : (IsV (.bool false)) v67 wx)
                  subst e67
                  have e69 : v69 = _ := (hd _ (.tail _ (.tail _ (.tail _ (.head _)))) (by kernel_rfl) : (IsV (.agg #[.slice AW nW cW, .slice AE nE cE])) v69 wx)
                  subst e69
                  obtain ⟨A72, n72, c72, rfl, h72⟩ := (hd _ (.head _) (by kernel_rfl) : (IsI (natI lens)) v72 wx)
                  clear hd
                  intro KK hK
                  go_simp
                  refine (fits_any _ AW nW cW W AE nE cE ee (h1.below hx.out) (h2.below hx.out) A72 n72 c72 lens h72).mono ?_
                  rintro e w' ⟨rfl, hb'⟩
                  exact hK.out _ _ rfl hb'
                simp only [Act.put, List.setIfInBounds_toArray, List.set_cons_zero, List.set_cons_succ]
                refine Tab.cons IsV.lasting (fun wx hx hd => ?_) (fun v74 => ?_)
                · skip
                  have e67 : v67 = _ := (hd _ (.tail _ (.tail _ (.tail _ (.tail _ (.tail _ (.tail _ (.head _))))))) (by kernel_rfl) : (IsV (.bool false)) v67 wx)
                  subst e67
                  have e73 : v73 = _ := (hd _ (.head _) (by kernel_rfl) : (IsV (.int .i64 (fitsV W ee lens))) v73 wx)
                  subst e73
                  clear hd
                  intro KK hK
                  go_simp
                  exact hK.out _ _ rfl (Below.refl _ _)
                simp only [Act.put, List.setIfInBounds_toArray, List.set_cons_zero, List.set_cons_succ]
                refine Tab.cons IsV.lasting (fun wx hx hd => ?_) (fun v75 => ?_)
                · skip
                  have e67 : v67 = _ := (hd _ (.tail _ (.tail _ (.tail _ (.tail _ (.tail _ (.tail _ (.tail _ (.head _)))))))) (by kernel_rfl) : (IsV (.bool false)) v67 wx)
                  subst e67
                  have e74 : v74 = _ := (hd _ (.head _) (by kernel_rfl) : (IsV (.bool (fitsV W ee lens != 0))) v74 wx)
                  subst e74
                  clear hd
                  intro KK hK
                  go_simp
                  exact hK.out _ _ rfl (Below.refl _ _)
                simp only [Act.put, List.setIfInBounds_toArray, List.set_cons_zero, List.set_cons_succ]
                refine Tab.cons IsV.lasting (fun wx hx hd => ?_) (fun v4 => ?_)
                · skip
                  have e75 : v75 = _ := (hd _ (.head _) (by kernel_rfl) : (IsV (.bool (fitsV W ee lens != 0))) v75 wx)
                  subst e75
                  clear hd
                  intro KK hK
                  go_simp
                  exact hK.out _ _ rfl (Below.refl _ _)
                simp only [Act.put, List.setIfInBounds_toArray, List.set_cons_zero, List.set_cons_succ]
                refine Tab.nil fun wx hx hd => ?_
                have e4 : v4 = _ := (hd _ (.head _) : (IsV (.bool (fitsV W ee lens != 0))) v4 wx)
                subst e4
                clear hd
                clear ha
                go_wp2
                go_ret
                exact ⟨_, rfl, below_step hx.out hS⟩
end Go.Proofs.Ytjadgomakoaibaa
