/- The walk of the law SemiringSums. -/
import Derived.Test.YtonimfogmplgdaaIntSums
namespace Go.Proofs.Ytonimfogmplgdaa
open Go.RowKit

theorem int_val' {k : IntKind} {a b : Int} (h : a = b) : Value.int k a = Value.int k b := by rw [h]
set_option maxHeartbeats 4000000 in
theorem law_SemiringSums (w : World) (A : Option Addr) (n c : Nat) (zs : List Int) (h : RdI w A n c zs) :
    Calls Try.prog 5 #[.slice A n c] w (Makes (.bool true) w) := by
  have h63 := h.le63
  have HLEN := hide h.len
  have hS0 := below_alloc w (.cells #[] 44)
  go_enter Try.func5, Try.ntmps5
  go_wp2_with fail
  go_loopw [4, 5, 6] (fun lv tv iv wr => ∃ j : Nat, j ≤ n ∧ iv = .int .i64 (j : Int) ∧ lv = .int .i64 (sumC (zs.take j)) ∧ tv = .int .i64 (prodC (zs.take j)) ∧ Below w.heap.size w wr) (fun _ _ iv _ => n - (intOf iv).toNat)
  case atStart => exact ⟨0, Nat.zero_le _, rfl, rfl, rfl, hS0⟩
  case round =>
    clear hS0
    obtain ⟨j, hj, rfl, rfl, rfl, hS⟩ := hrel
    by_cases hlt : j < n
    · obtain ⟨b, off, rfl, hb, hcell⟩ := (h.below hS).at hlt
      have hjl : j < zs.length := by rw [HLEN.out]; exact hlt
      have HST := hide (sumC_take hjl)
      have HPT := hide (prodC_take hjl)
      have HB := hide hb
      generalize sumC (zs.take j) = l at *
      generalize prodC (zs.take j) = t at *
      generalize zs.getD j 0 = x at *
      clear hjl
      go_wp2_with fail
      refine (rcCost_any _ _).mono ?_
      rintro e w2 ⟨rfl, hb2⟩
      have hcell2 := (hb2.cell (p := ⟨b, off + j, none⟩) HB.out).trans hcell
      clear hcell
      generalize hy : cCost x = y at *
      have HY := hide hy
      clear hy
      go_wp2_with fail
      all_goals
        refine (rminPlus_mul _ _ _).mono ?_
        rintro e w3 ⟨rfl, hb3⟩
        go_wp2
        go_roundw
        case rel => exact ⟨j + 1, by omega, by go_num, by rw [HST.out], by rw [HPT.out], below_step hb3 (below_step hb2 hS)⟩
        case measure => simp [intOf]; omega
    · obtain rfl : n = j := by omega
      have hall : zs.take n = zs := List.take_of_length_le (by rw [HLEN.out]; exact Nat.le_refl _)
      rw [hall]
      clear hall
      go_wp2_with fail
      refine (sum_min _ _ _ _ _ (h.below hS)).mono ?_
      rintro e w4 ⟨rfl, hb4⟩
      generalize hs1 : sumC zs = s1 at *
      go_wp2_with fail
      refine (prod_min _ _ _ _ _ ((h.below hS).below hb4)).mono ?_
      rintro e w5 ⟨rfl, hb5⟩
      have hS0 := below_step hb5 (below_step hb4 hS)
      clear hs1 hb4 hb5 hS
      generalize prodC zs = p1 at *
      go_wp2_with fail
      go_loopw [7, 8, 9] (fun lv tv iv wr => ∃ j : Nat, j ≤ n ∧ iv = .int .i64 (j : Int) ∧ lv = .int .i64 (sumG (zs.take j)) ∧ tv = .int .i64 (prodG (zs.take j)) ∧ Below w.heap.size w wr) (fun _ _ iv _ => n - (intOf iv).toNat)
      case atStart => exact ⟨0, Nat.zero_le _, rfl, rfl, rfl, hS0⟩
      case round =>
        clear hS0
        obtain ⟨j, hj, rfl, rfl, rfl, hS⟩ := hrel
        by_cases hlt : j < n
        · obtain ⟨b, off, rfl, hb, hcell⟩ := (h.below hS).at hlt
          have hjl : j < zs.length := by rw [HLEN.out]; exact hlt
          have HST := hide (sumG_take hjl)
          have HPT := hide (prodG_take hjl)
          have HB := hide hb
          generalize sumG (zs.take j) = l at *
          generalize prodG (zs.take j) = t at *
          generalize zs.getD j 0 = x at *
          clear hjl
          go_wp2_with fail
          refine (rgCost_any _ _).mono ?_
          rintro e w2 ⟨rfl, hb2⟩
          have hcell2 := (hb2.cell (p := ⟨b, off + j, none⟩) HB.out).trans hcell
          clear hcell
          generalize hy : gCost x = y at *
          have HY := hide hy
          clear hy
          go_wp2_with fail
          all_goals
            refine (rmaxPlus_mul _ _ _).mono ?_
            rintro e w3 ⟨rfl, hb3⟩
            go_wp2
            go_roundw
            case rel => exact ⟨j + 1, by omega, by go_num, by rw [HST.out], by rw [HPT.out], below_step hb3 (below_step hb2 hS)⟩
            case measure => simp [intOf]; omega
        · obtain rfl : n = j := by omega
          have hall : zs.take n = zs := List.take_of_length_le (by rw [HLEN.out]; exact Nat.le_refl _)
          rw [hall]
          clear hall
          go_wp2_with fail
          refine (sum_max _ _ _ _ _ (h.below hS)).mono ?_
          rintro e w4 ⟨rfl, hb4⟩
          generalize hs1 : sumG zs = s2 at *
          go_wp2_with fail
          refine (prod_max _ _ _ _ _ ((h.below hS).below hb4)).mono ?_
          rintro e w5 ⟨rfl, hb5⟩
          generalize prodG zs = p2 at *
          go_wp2
          go_ret
          exact ⟨by rfl, below_step hb5 (below_step hb4 hS)⟩
end Go.Proofs.Ytonimfogmplgdaa
