/- Sums and products of a list of ints, over costs and over gains. -/
import Derived.Test.YtonimfogmplgdaaGains
import Derived.Test.YtonimfogmplgdaaShape
namespace Go.Proofs.Ytonimfogmplgdaa
open Go.RowKit

theorem foldl_take {α β : Type} (f : β → α → β) (z : β) (l : List α) (d : α) {j : Nat} (h : j < l.length) : (l.take (j + 1)).foldl f z = f ((l.take j).foldl f z) (l.getD j d) := by
  rw [List.take_succ_eq_append_getElem h, List.foldl_append, List.getD_eq_getElem?_getD, List.getElem?_eq_getElem h]
  rfl
def sumC (zs : List Int) : Int := zs.foldl (fun l x => min l (cCost x)) 4611686018427387904
def prodC (zs : List Int) : Int := zs.foldl cMul 0
def sumG (zs : List Int) : Int := zs.foldl (fun l x => max l (gCost x)) (-1)
def prodG (zs : List Int) : Int := zs.foldl gMul 0
theorem sumC_take {zs : List Int} {j : Nat} (h : j < zs.length) : sumC (zs.take (j + 1)) = min (sumC (zs.take j)) (cCost (zs.getD j 0)) := foldl_take _ _ _ _ h
theorem prodC_take {zs : List Int} {j : Nat} (h : j < zs.length) : prodC (zs.take (j + 1)) = cMul (prodC (zs.take j)) (zs.getD j 0) := foldl_take _ _ _ _ h
theorem sumG_take {zs : List Int} {j : Nat} (h : j < zs.length) : sumG (zs.take (j + 1)) = max (sumG (zs.take j)) (gCost (zs.getD j 0)) := foldl_take _ _ _ _ h
theorem prodG_take {zs : List Int} {j : Nat} (h : j < zs.length) : prodG (zs.take (j + 1)) = gMul (prodG (zs.take j)) (zs.getD j 0) := foldl_take _ _ _ _ h
theorem sumC_range (zs : List Int) (j : Nat) : 0 ≤ sumC (zs.take j) ∧ sumC (zs.take j) ≤ 4611686018427387904 := by
  induction j with
  | zero => simp [sumC]
  | succ j ih =>
    by_cases h : j < zs.length
    · rw [sumC_take h]
      have := cCost_range (zs.getD j 0)
      omega
    · rw [List.take_of_length_le (by omega)] at ih ⊢
      exact ih
theorem sumG_range (zs : List Int) (j : Nat) : -1 ≤ sumG (zs.take j) ∧ sumG (zs.take j) ≤ 4611686018427387904 := by
  induction j with
  | zero => simp [sumG]
  | succ j ih =>
    by_cases h : j < zs.length
    · rw [sumG_take h]
      have := gCost_range (zs.getD j 0)
      omega
    · rw [List.take_of_length_le (by omega)] at ih ⊢
      exact ih
theorem cAdd_sum {l x : Int} (h : 0 ≤ l ∧ l ≤ 4611686018427387904) : cAdd l x = min l (cCost x) := by
  have h1 : cCost l = l := by unfold cCost; omega
  unfold cAdd
  rw [h1]
theorem gAdd_sum {l x : Int} (h : -1 ≤ l ∧ l ≤ 4611686018427387904) : gAdd l x = max l (gCost x) := by
  have h1 : gCost l = l := by unfold gCost; omega
  unfold gAdd
  rw [h1]

set_option maxHeartbeats 1000000 in
theorem sum_min (A : Option Addr) (n c : Nat) (zs : List Int) (w : World) (h : RdI w A n c zs) :
    Calls Try.prog 29 #[.agg #[], .slice A n c] w (Makes (.int .i64 (sumC zs)) w) := by
  have h63 := h.le63
  have HLEN := hide h.len
  go_enter Try.func29, Try.ntmps29
  go_wp2_with fail
  refine (minPlus_zero _).mono ?_
  rintro e w1 ⟨rfl, hb1⟩
  have hS1 := below_step hb1 (below_alloc w _)
  clear hb1
  go_wp2_with fail
  go_loopw [5, 13] (fun sv i wr => ∃ j : Nat, j ≤ n ∧ i = .int .i64 (j : Int) ∧ sv = .int .i64 (sumC (zs.take j)) ∧ Below w.heap.size w wr) (fun _ i _ => n - (intOf i).toNat)
  case atStart => exact ⟨0, Nat.zero_le _, rfl, rfl, hS1⟩
  case round =>
    clear hS1
    obtain ⟨j, hj, rfl, rfl, hS⟩ := hrel
    by_cases hlt : j < n
    · obtain ⟨b, off, rfl, hb, hcell⟩ := (h.below hS).at hlt
      have hjl : j < zs.length := by rw [HLEN.out]; exact hlt
      have HST := hide (sumC_take hjl)
      have HRG := hide (sumC_range zs j)
      generalize sumC (zs.take j) = l at *
      generalize zs.getD j 0 = x at *
      clear hjl
      go_wp2_with fail
      refine (minPlus_add _ _ _).mono ?_
      rw [cAdd_sum HRG.out]
      rintro e w2 ⟨rfl, hb2⟩
      go_wp2
      go_roundw
      case rel => exact ⟨j + 1, by omega, by go_num, by rw [HST.out], below_step hb2 hS⟩
      case measure => simp [intOf]; omega
    · obtain rfl : j = n := by omega
      have hall : zs.take j = zs := List.take_of_length_le (by rw [HLEN.out]; exact Nat.le_refl _)
      rw [hall]
      clear hall
      go_wp2
      go_ret
      exact ⟨rfl, hS⟩

set_option maxHeartbeats 1000000 in
theorem prod_min (A : Option Addr) (n c : Nat) (zs : List Int) (w : World) (h : RdI w A n c zs) :
    Calls Try.prog 30 #[.agg #[], .slice A n c] w (Makes (.int .i64 (prodC zs)) w) := by
  have h63 := h.le63
  have HLEN := hide h.len
  go_enter Try.func30, Try.ntmps30
  go_wp2_with fail
  refine (minPlus_one _).mono ?_
  rintro e w1 ⟨rfl, hb1⟩
  have hS1 := below_step hb1 (below_alloc w _)
  clear hb1
  go_wp2_with fail
  go_loopw [5, 13] (fun sv i wr => ∃ j : Nat, j ≤ n ∧ i = .int .i64 (j : Int) ∧ sv = .int .i64 (prodC (zs.take j)) ∧ Below w.heap.size w wr) (fun _ i _ => n - (intOf i).toNat)
  case atStart => exact ⟨0, Nat.zero_le _, rfl, rfl, hS1⟩
  case round =>
    clear hS1
    obtain ⟨j, hj, rfl, rfl, hS⟩ := hrel
    by_cases hlt : j < n
    · obtain ⟨b, off, rfl, hb, hcell⟩ := (h.below hS).at hlt
      have hjl : j < zs.length := by rw [HLEN.out]; exact hlt
      have HST := hide (prodC_take hjl)
      skip
      generalize prodC (zs.take j) = l at *
      generalize zs.getD j 0 = x at *
      clear hjl
      go_wp2_with fail
      refine (minPlus_mul _ _ _).mono ?_
      rintro e w2 ⟨rfl, hb2⟩
      go_wp2
      go_roundw
      case rel => exact ⟨j + 1, by omega, by go_num, by rw [HST.out], below_step hb2 hS⟩
      case measure => simp [intOf]; omega
    · obtain rfl : j = n := by omega
      have hall : zs.take j = zs := List.take_of_length_le (by rw [HLEN.out]; exact Nat.le_refl _)
      rw [hall]
      clear hall
      go_wp2
      go_ret
      exact ⟨rfl, hS⟩

set_option maxHeartbeats 1000000 in
theorem sum_max (A : Option Addr) (n c : Nat) (zs : List Int) (w : World) (h : RdI w A n c zs) :
    Calls Try.prog 33 #[.agg #[], .slice A n c] w (Makes (.int .i64 (sumG zs)) w) := by
  have h63 := h.le63
  have HLEN := hide h.len
  go_enter Try.func33, Try.ntmps33
  go_wp2_with fail
  refine (maxPlus_zero _).mono ?_
  rintro e w1 ⟨rfl, hb1⟩
  have hS1 := below_step hb1 (below_alloc w _)
  clear hb1
  go_wp2_with fail
  go_loopw [5, 13] (fun sv i wr => ∃ j : Nat, j ≤ n ∧ i = .int .i64 (j : Int) ∧ sv = .int .i64 (sumG (zs.take j)) ∧ Below w.heap.size w wr) (fun _ i _ => n - (intOf i).toNat)
  case atStart => exact ⟨0, Nat.zero_le _, rfl, rfl, hS1⟩
  case round =>
    clear hS1
    obtain ⟨j, hj, rfl, rfl, hS⟩ := hrel
    by_cases hlt : j < n
    · obtain ⟨b, off, rfl, hb, hcell⟩ := (h.below hS).at hlt
      have hjl : j < zs.length := by rw [HLEN.out]; exact hlt
      have HST := hide (sumG_take hjl)
      have HRG := hide (sumG_range zs j)
      generalize sumG (zs.take j) = l at *
      generalize zs.getD j 0 = x at *
      clear hjl
      go_wp2_with fail
      refine (maxPlus_add _ _ _).mono ?_
      rw [gAdd_sum HRG.out]
      rintro e w2 ⟨rfl, hb2⟩
      go_wp2
      go_roundw
      case rel => exact ⟨j + 1, by omega, by go_num, by rw [HST.out], below_step hb2 hS⟩
      case measure => simp [intOf]; omega
    · obtain rfl : j = n := by omega
      have hall : zs.take j = zs := List.take_of_length_le (by rw [HLEN.out]; exact Nat.le_refl _)
      rw [hall]
      clear hall
      go_wp2
      go_ret
      exact ⟨rfl, hS⟩

set_option maxHeartbeats 1000000 in
theorem prod_max (A : Option Addr) (n c : Nat) (zs : List Int) (w : World) (h : RdI w A n c zs) :
    Calls Try.prog 34 #[.agg #[], .slice A n c] w (Makes (.int .i64 (prodG zs)) w) := by
  have h63 := h.le63
  have HLEN := hide h.len
  go_enter Try.func34, Try.ntmps34
  go_wp2_with fail
  refine (maxPlus_one _).mono ?_
  rintro e w1 ⟨rfl, hb1⟩
  have hS1 := below_step hb1 (below_alloc w _)
  clear hb1
  go_wp2_with fail
  go_loopw [5, 13] (fun sv i wr => ∃ j : Nat, j ≤ n ∧ i = .int .i64 (j : Int) ∧ sv = .int .i64 (prodG (zs.take j)) ∧ Below w.heap.size w wr) (fun _ i _ => n - (intOf i).toNat)
  case atStart => exact ⟨0, Nat.zero_le _, rfl, rfl, hS1⟩
  case round =>
    clear hS1
    obtain ⟨j, hj, rfl, rfl, hS⟩ := hrel
    by_cases hlt : j < n
    · obtain ⟨b, off, rfl, hb, hcell⟩ := (h.below hS).at hlt
      have hjl : j < zs.length := by rw [HLEN.out]; exact hlt
      have HST := hide (prodG_take hjl)
      skip
      generalize prodG (zs.take j) = l at *
      generalize zs.getD j 0 = x at *
      clear hjl
      go_wp2_with fail
      refine (maxPlus_mul _ _ _).mono ?_
      rintro e w2 ⟨rfl, hb2⟩
      go_wp2
      go_roundw
      case rel => exact ⟨j + 1, by omega, by go_num, by rw [HST.out], below_step hb2 hS⟩
      case measure => simp [intOf]; omega
    · obtain rfl : j = n := by omega
      have hall : zs.take j = zs := List.take_of_length_le (by rw [HLEN.out]; exact Nat.le_refl _)
      rw [hall]
      clear hall
      go_wp2
      go_ret
      exact ⟨rfl, hS⟩
end Go.Proofs.Ytonimfogmplgdaa
