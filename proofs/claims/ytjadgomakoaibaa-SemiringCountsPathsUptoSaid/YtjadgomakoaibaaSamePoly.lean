/- Lists of numbers that are the same: the walk of SamePoly. -/
import Derived.Test.YtjadgomakoaibaaNumM
import Derived.Test.YtjadgomakoaibaaPathK
namespace Go.Proofs.Ytjadgomakoaibaa
open Go.RowKit
set_option maxHeartbeats 1000000 in
theorem samePoly_yes (w : World) (K L : Nat) (A : Option Addr) (n c : Nat) (B : Option Addr) (m c2 : Nat) (xs : List Nat) (h : RdV (natC K) 0 w 1 A n c xs) (h' : RdV (natC L) 0 w 1 B m c2 xs) :
    Calls Try.prog 14 #[.slice A n c, .slice B m c2] w (Makes (.bool true) w) := by
  obtain rfl : n = m := by have h1 := h.len; have h2 := h'.len; omega
  have h63 := h.le63
  go_enter Try.func14, Try.ntmps14
  go_wp2_with fail
  go_loopw [5] (fun iv wr => ∃ i : Nat, i ≤ n ∧ iv = .int .i64 (i : Int) ∧ Below w.heap.size w wr) (fun iv _ => n - (intOf iv).toNat)
  case atStart => exact ⟨0, Nat.zero_le _, rfl, Below.refl _ _⟩
  case round =>
    obtain ⟨i, hi, rfl, hS⟩ := hrel
    by_cases hlt : i < n
    · obtain ⟨b, o, v1, rfl, hb, hc1, A1, n1, c1, rfl, hr1, _⟩ := (h.below hS).at1 hlt
      obtain ⟨b2, o2, v2, rfl, hb2, hc2, A2, n2, c3, rfl, hr2, _⟩ := (h'.below hS).at1 hlt
      obtain ⟨W, hWd⟩ : ∃ W : World, W = wr := ⟨_, rfl⟩
      subst hWd
      have KA := hide (stays hc1)
      have KB := hide (stays hc2)
      have RA := hide hr1
      have RB := hide hr2
      have q1 : (i : Int) < (n : Int) := by omega
      clear hc1 hc2 hr1 hr2
      go_wp2_with fail
      refine wp_region_tab 10 27 [IsV (.slice (some ⟨b, o, none⟩) n c), IsV (.int .i64 (i : Int)), IsV (.pointer (some ⟨b, o + i, none⟩)), IsV (.slice A1 n1 c1), IsV (.slice (some ⟨b2, o2, none⟩) n c2), IsV (.int .i64 (i : Int)), IsV (.pointer (some ⟨b2, o2 + i, none⟩)), IsV (.slice A2 n2 c3), IsV (.bool true), IsV (.bool false)] (From W) (by kernel_rfl) (by kernel_rfl) (by kernel_rfl) rfl From.lasts (From.drew (From.refl W)) ?_
      simp only [List.take_succ_cons, List.drop_succ_cons, List.take_nil, List.drop_nil]
      refine Tab.cons IsV.lasting (fun wx hx hd => ?_) (fun v17 => ?_)
      · skip
        clear hd
        intro KK hK
        go_simp
        exact hK.out _ _ rfl (Below.refl _ _)
      simp only [Act.put, List.setIfInBounds_toArray, List.set_cons_zero, List.set_cons_succ]
      refine Tab.cons IsV.lasting (fun wx hx hd => ?_) (fun v18 => ?_)
      · skip
        clear hd
        intro KK hK
        go_simp
        exact hK.out _ _ rfl (Below.refl _ _)
      simp only [Act.put, List.setIfInBounds_toArray, List.set_cons_zero, List.set_cons_succ]
      refine Tab.cons IsV.lasting (fun wx hx hd => ?_) (fun v19 => ?_)
      · skip
        have e17 : v17 = _ := (hd _ (.tail _ (.head _)) (by kernel_rfl) : (IsV (.slice (some ⟨b, o, none⟩) n c)) v17 wx)
        subst e17
        have e18 : v18 = _ := (hd _ (.head _) (by kernel_rfl) : (IsV (.int .i64 (i : Int))) v18 wx)
        subst e18
        clear hd
        intro KK hK
        go_simp
        exact hK.out _ _ rfl (Below.refl _ _)
      simp only [Act.put, List.setIfInBounds_toArray, List.set_cons_zero, List.set_cons_succ]
      refine Tab.cons IsV.lasting (fun wx hx hd => ?_) (fun v20 => ?_)
      · skip
        have e19 : v19 = _ := (hd _ (.head _) (by kernel_rfl) : (IsV (.pointer (some ⟨b, o + i, none⟩))) v19 wx)
        subst e19
        clear hd
        intro KK hK
        have hcell0 := KA.out _ hx
        go_simp
        exact hK.out _ _ rfl (Below.refl _ _)
      simp only [Act.put, List.setIfInBounds_toArray, List.set_cons_zero, List.set_cons_succ]
      refine Tab.cons IsV.lasting (fun wx hx hd => ?_) (fun v21 => ?_)
      · skip
        clear hd
        intro KK hK
        go_simp
        exact hK.out _ _ rfl (Below.refl _ _)
      simp only [Act.put, List.setIfInBounds_toArray, List.set_cons_zero, List.set_cons_succ]
      refine Tab.cons IsV.lasting (fun wx hx hd => ?_) (fun v22 => ?_)
      · skip
        clear hd
        intro KK hK
        go_simp
        exact hK.out _ _ rfl (Below.refl _ _)
      simp only [Act.put, List.setIfInBounds_toArray, List.set_cons_zero, List.set_cons_succ]
      refine Tab.cons IsV.lasting (fun wx hx hd => ?_) (fun v23 => ?_)
      · skip
        have e21 : v21 = _ := (hd _ (.tail _ (.head _)) (by kernel_rfl) : (IsV (.slice (some ⟨b2, o2, none⟩) n c2)) v21 wx)
        subst e21
        have e22 : v22 = _ := (hd _ (.head _) (by kernel_rfl) : (IsV (.int .i64 (i : Int))) v22 wx)
        subst e22
        clear hd
        intro KK hK
        go_simp
        exact hK.out _ _ rfl (Below.refl _ _)
      simp only [Act.put, List.setIfInBounds_toArray, List.set_cons_zero, List.set_cons_succ]
      refine Tab.cons IsV.lasting (fun wx hx hd => ?_) (fun v24 => ?_)
      · skip
        have e23 : v23 = _ := (hd _ (.head _) (by kernel_rfl) : (IsV (.pointer (some ⟨b2, o2 + i, none⟩))) v23 wx)
        subst e23
        clear hd
        intro KK hK
        have hcell0 := KB.out _ hx
        go_simp
        exact hK.out _ _ rfl (Below.refl _ _)
      simp only [Act.put, List.setIfInBounds_toArray, List.set_cons_zero, List.set_cons_succ]
      refine Tab.cons IsV.lasting (fun wx hx hd => ?_) (fun v25 => ?_)
      · skip
        have e20 : v20 = _ := (hd _ (.tail _ (.tail _ (.tail _ (.tail _ (.head _))))) (by kernel_rfl) : (IsV (.slice A1 n1 c1)) v20 wx)
        subst e20
        have e24 : v24 = _ := (hd _ (.head _) (by kernel_rfl) : (IsV (.slice A2 n2 c3)) v24 wx)
        subst e24
        clear hd
        intro KK hK
        go_simp
        refine (rsame_num_yes (RA.out.below hx.out) (RB.out.below hx.out) rfl).mono ?_
        rintro e w' ⟨rfl, hb'⟩
        exact hK.out _ _ rfl hb'
      simp only [Act.put, List.setIfInBounds_toArray, List.set_cons_zero, List.set_cons_succ]
      refine Tab.cons IsV.lasting (fun wx hx hd => ?_) (fun v26 => ?_)
      · skip
        have e25 : v25 = _ := (hd _ (.head _) (by kernel_rfl) : (IsV (.bool true)) v25 wx)
        subst e25
        clear hd
        intro KK hK
        go_simp
        exact hK.out _ _ rfl (Below.refl _ _)
      simp only [Act.put, List.setIfInBounds_toArray, List.set_cons_zero, List.set_cons_succ]
      refine Tab.nil fun wx hx hd => ?_
      have e26 : v26 = _ := (hd _ (.head _) : (IsV (.bool false)) v26 wx)
      subst e26
      clear hd
      clear q1
      go_wp2
      go_roundw
      case rel => exact ⟨i + 1, by omega, by go_num, below_step hx.out hS⟩
      case measure => simp [intOf]; omega
    · go_wp2
      go_ret
      exact ⟨rfl, hS⟩
end Go.Proofs.Ytjadgomakoaibaa
