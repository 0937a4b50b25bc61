/- The walk of the law NatOrders. -/
import Derived.Test.YtpfhohfcohkhnaaTwo
import Derived.Deep.CutRange
namespace Go.Proofs.Ytpfhohfcohkhnaa
open Go.RowKit

theorem cmpV_bounds (x y : Nat) : -1 ≤ cmpV x y ∧ cmpV x y ≤ 1 := by
  unfold cmpV; split
  · omega
  · split <;> omega
theorem cmpV_swap (x y : Nat) : cmpV y x = -cmpV x y := by
  rcases Nat.lt_trichotomy x y with h | h | h
  · rw [cmpV_lt h, cmpV_gt h]; rfl
  · rw [cmpV_eq h, cmpV_eq h.symm]; rfl
  · rw [cmpV_lt h, cmpV_gt h]
theorem cmpV_add (x y z : Nat) : cmpV (x + z) (y + z) = cmpV x y := by
  unfold cmpV
  by_cases h : x < y
  · rw [if_pos h, if_pos (by omega)]
  · rw [if_neg h, if_neg (by omega)]
    by_cases h2 : y < x
    · rw [if_pos h2, if_pos (by omega)]
    · rw [if_neg h2, if_neg (by omega)]
theorem cmpV_zero (x y : Nat) : (cmpV x y == 0) = decide (x = y) := by
  rcases Nat.lt_trichotomy x y with h | h | h
  · rw [cmpV_lt h, decide_eq_false (by omega)]; rfl
  · rw [cmpV_eq h, decide_eq_true h]; rfl
  · rw [cmpV_gt h, decide_eq_false (by omega)]; rfl
/-- The three comparisons of three numbers, as far as they hang together. -/
theorem cmpV_three (a b c : Nat) : ¬ (cmpV a b ≤ 0 ∧ cmpV b c ≤ 0 ∧ 0 < cmpV a c) ∧ ¬ (cmpV a b = 0 ∧ cmpV b c = 0 ∧ cmpV a c ≠ 0) := by
  unfold cmpV
  refine ⟨?_, ?_⟩ <;> (repeat' split) <;> omega

/-- A literal of two limbs. -/
theorem rd_lit2 {w : World} (g : Nat) (hg : g = w.heap.size) : Rd (w.alloc (.cells #[Value.int .u32 0, Value.int .u32 1] 56)) (some ⟨g, 0, none⟩) 2 2 [0, 1] := by
  subst hg
  exact (Own.lit w (base := w.heap.size) 56 [0, 1] 2 rfl (Nat.le_refl _) (by decide) (Lims.cons (by omega) (Lims.cons (by omega) Lims.nil))).rd

set_option maxHeartbeats 4000000 in
theorem law_NatOrders (w : World) (Aa : Option Addr) (na ca : Nat) (la : List Nat) (ha : Rd w Aa na ca la) (Ab : Option Addr) (nb cb : Nat) (lb : List Nat) (hb : Rd w Ab nb cb lb) (Ac : Option Addr) (nc cc : Nat) (lc : List Nat) (hc : Rd w Ac nc cc lc) :
    Calls Try.prog 11 #[.slice Aa na ca, .slice Ab nb cb, .slice Ac nc cc] w (Makes (.bool true) w) := by
  have hS := below_alloc w (.cells #[.slice Aa na ca, .slice Ab nb cb, .slice Ac nc cc] 42)
  have hL := rdl_three 42 ha hb hc
  go_enter Try.func11, Try.ntmps11
  go_wp2_with fail
  refine (long_any 200 _ 3 3 _ _ hL).mono ?_
  rintro e w0 ⟨rfl, hw0⟩
  subst hw0
  cases hlong : anyLong 200 [la, lb, lc] with
  | true =>
    clear hlong
    go_wp2
    go_ret
    exact ⟨rfl, hS⟩
  | false =>
    have hna : na ≤ 200 := by
      have := anyLong_false hlong la (by simp)
      have := ha.len
      omega
    have hnb : nb ≤ 200 := by
      have := anyLong_false hlong lb (by simp)
      have := hb.len
      omega
    have hnc : nc ≤ 200 := by
      have := anyLong_false hlong lc (by simp)
      have := hc.len
      omega
    clear hlong hL
    obtain ⟨w0, hw0⟩ : ∃ w0, w0 = World.alloc w (.cells #[.slice Aa na ca, .slice Ab nb cb, .slice Ac nc cc] 42) := ⟨_, rfl⟩
    rw [← hw0] at hS ⊢
    have ha : Rd w0 Aa na ca la := by rw [hw0]; exact ha.below (below_alloc w (.cells #[.slice Aa na ca, .slice Ab nb cb, .slice Ac nc cc] 42))
    have hb : Rd w0 Ab nb cb lb := by rw [hw0]; exact hb.below (below_alloc w (.cells #[.slice Aa na ca, .slice Ab nb cb, .slice Ac nc cc] 42))
    have hc : Rd w0 Ac nc cc lc := by rw [hw0]; exact hc.below (below_alloc w (.cells #[.slice Aa na ca, .slice Ab nb cb, .slice Ac nc cc] 42))
    clear hw0
    have hx := cmpV_bounds (val la) (val lb)
    have hy := cmpV_bounds (val lb) (val lc)
    have hz := cmpV_bounds (val la) (val lc)
    obtain ⟨hx1, hx2⟩ := hx
    obtain ⟨hy1, hy2⟩ := hy
    obtain ⟨hz1, hz2⟩ := hz
    go_wp2_with fail
    refine (cmp_any Aa na ca la Ab nb cb lb _ ha hb).mono ?_
    rintro e w1 ⟨rfl, hb1⟩
    replace ha := ha.below hb1
    replace hb := hb.below hb1
    replace hc := hc.below hb1
    replace hS := below_step hb1 hS
    clear hb1
    go_wp2_with fail
    refine (cmp_any Ab nb cb lb Ac nc cc lc _ hb hc).mono ?_
    rintro e w2 ⟨rfl, hb2⟩
    replace ha := ha.below hb2
    replace hb := hb.below hb2
    replace hc := hc.below hb2
    replace hS := below_step hb2 hS
    clear hb2
    go_wp2_with fail
    refine (cmp_any Aa na ca la Ac nc cc lc _ ha hc).mono ?_
    rintro e w3 ⟨rfl, hb3⟩
    replace ha := ha.below hb3
    replace hb := hb.below hb3
    replace hc := hc.below hb3
    replace hS := below_step hb3 hS
    clear hb3
    have h1 := rd_lit1 (w := w3) (x := 1) (w3.heap.size) (by simp) 1 rfl (by omega) (by omega)
    replace ha := ha.below (below_alloc _ (.cells #[Value.int .u32 1] 56))
    replace hb := hb.below (below_alloc _ (.cells #[Value.int .u32 1] 56))
    replace hc := hc.below (below_alloc _ (.cells #[Value.int .u32 1] 56))
    replace hS := below_step (below_alloc _ (.cells #[Value.int .u32 1] 56)) hS
    have h01 := rd_lit2 (w := (World.alloc w3 (.cells #[Value.int .u32 1] 56))) (w3.heap.size + 1) (by simp)
    replace ha := ha.below (below_alloc _ (.cells #[Value.int .u32 0, Value.int .u32 1] 56))
    replace hb := hb.below (below_alloc _ (.cells #[Value.int .u32 0, Value.int .u32 1] 56))
    replace hc := hc.below (below_alloc _ (.cells #[Value.int .u32 0, Value.int .u32 1] 56))
    replace h1 := h1.below (below_alloc _ (.cells #[Value.int .u32 0, Value.int .u32 1] 56))
    replace hS := below_step (below_alloc _ (.cells #[Value.int .u32 0, Value.int .u32 1] 56)) hS
    go_wp2_with fail
    refine (cmp_any _ 1 1 (limbs 1) _ 2 2 [0, 1] _ h1 h01).mono ?_
    rintro e w4 ⟨rfl, hb4⟩
    replace ha := ha.below hb4
    replace hb := hb.below hb4
    replace hc := hc.below hb4
    replace h1 := h1.below hb4
    replace h01 := h01.below hb4
    replace hS := below_step hb4 hS
    clear hb4
    clear h1 h01
    rw [show cmpV (val (limbs 1)) (val [0, 1]) = -1 from by rw [val_limbs]; rfl]
    have hsw : (cmpV (val lb) (val la) != -cmpV (val la) (val lb)) = false := by rw [cmpV_swap]; simp
    go_wp2_with fail
    refine (cmp_any Ab nb cb lb Aa na ca la _ hb ha).mono ?_
    rintro e w5 ⟨rfl, hb5⟩
    replace ha := ha.below hb5
    replace hb := hb.below hb5
    replace hc := hc.below hb5
    replace hS := below_step hb5 hS
    clear hb5
    go_upto_region 6 with fail
    clear hsw
    obtain ⟨ht1, ht2⟩ := cmpV_three (val la) (val lb) (val lc)
    have HT1 := hide ht1
    have HT2 := hide ht2
    clear ht1 ht2
    go_cut [67] from 46 to 67 (fun c67 wx => c67 = .bool false ∧ wx = w5)
    case first =>
      clear ha hb hc hS
      have ht1 := HT1.out
      have ht2 := HT2.out
      clear HT1 HT2
      generalize cmpV (val la) (val lb) = x at *
      generalize cmpV (val lb) (val lc) = y at *
      generalize cmpV (val la) (val lc) = z at *
      rcases (show x = -1 ∨ x = 0 ∨ x = 1 by omega) with rfl | rfl | rfl <;> rcases (show y = -1 ∨ y = 0 ∨ y = 1 by omega) with rfl | rfl | rfl <;> rcases (show z = -1 ∨ z = 0 ∨ z = 1 by omega) with rfl | rfl | rfl <;> first | (exfalso; omega) | (clear ht1 ht2; go_wp2; go_meet; case rel => exact ⟨by rfl, rfl⟩)
    case rest =>
      obtain ⟨rfl, rfl⟩ := hcut
      clear HT1 HT2
      go_wp2_with fail
      refine (trim1 ha (by omega)).mono ?_
      rintro e w6 ⟨A6, n6, c6, rfl, hu, hb6, hn6⟩
      try simp only [val_limbs] at hu
      try simp only [val_nil] at hu
      replace ha := ha.below hb6
      replace hb := hb.below hb6
      replace hc := hc.below hb6
      replace hS := below_step hb6 hS
      clear hb6
      go_wp2_with fail
      refine (trim1 hb (by omega)).mono ?_
      rintro e w7 ⟨A7, n7, c7, rfl, hv, hb7, hn7⟩
      try simp only [val_limbs] at hv
      try simp only [val_nil] at hv
      replace ha := ha.below hb7
      replace hb := hb.below hb7
      replace hc := hc.below hb7
      replace hu := hu.below hb7
      replace hS := below_step hb7 hS
      clear hb7
      go_wp2_with fail
      refine (same_num hu hv).mono ?_
      rintro e w8 ⟨rfl, hb8⟩
      replace ha := ha.below hb8
      replace hb := hb.below hb8
      replace hc := hc.below hb8
      replace hu := hu.below hb8
      replace hv := hv.below hb8
      replace hS := below_step hb8 hS
      clear hb8
      clear hu hv
      have hq := cmpV_zero (val la) (val lb)
      go_wp2_with fail
      refine (add2 ha hc _ (by simp) (by omega) (by omega)).mono ?_
      rintro e w9 ⟨A9, n9, c9, rfl, hu, hb9, hn9⟩
      try simp only [val_limbs] at hu
      try simp only [val_nil] at hu
      replace ha := ha.below hb9
      replace hb := hb.below hb9
      replace hc := hc.below hb9
      replace hS := below_step hb9 hS
      clear hb9
      go_wp2_with fail
      refine (add2 hb hc _ (by simp) (by omega) (by omega)).mono ?_
      rintro e w10 ⟨A10, n10, c10, rfl, hv, hb10, hn10⟩
      try simp only [val_limbs] at hv
      try simp only [val_nil] at hv
      replace ha := ha.below hb10
      replace hb := hb.below hb10
      replace hc := hc.below hb10
      replace hu := hu.below hb10
      replace hS := below_step hb10 hS
      clear hb10
      go_wp2_with fail
      refine (cmp_any _ _ _ _ _ _ _ _ _ hu hv).mono ?_
      rintro e w11 ⟨rfl, hb11⟩
      replace ha := ha.below hb11
      replace hb := hb.below hb11
      replace hc := hc.below hb11
      replace hu := hu.below hb11
      replace hv := hv.below hb11
      replace hS := below_step hb11 hS
      clear hb11
      clear hu hv
      rw [val_limbs, val_limbs, cmpV_add]
      clear hq
      go_wp2_with fail
      refine (add2 ha hb _ (by simp) (by omega) (by omega)).mono ?_
      rintro e w12 ⟨A12, n12, c12, rfl, hu, hb12, hn12⟩
      try simp only [val_limbs] at hu
      try simp only [val_nil] at hu
      replace ha := ha.below hb12
      replace hb := hb.below hb12
      replace hc := hc.below hb12
      replace hS := below_step hb12 hS
      clear hb12
      go_wp2_with fail
      refine (sub_any _ _ _ _ Ab nb cb lb _ hu hb (by omega)).mono ?_
      rintro e w13 ⟨A13, n13, c13, rfl, hd, hb13⟩
      rw [val_limbs, Nat.add_sub_cancel] at hd
      rw [val_limbs, if_neg (by omega)]
      replace ha := ha.below hb13
      replace hb := hb.below hb13
      replace hc := hc.below hb13
      replace hu := hu.below hb13
      replace hS := below_step hb13 hS
      clear hb13
      clear hu
      go_wp2_with fail
      refine (trim1 ha (by omega)).mono ?_
      rintro e w14 ⟨A14, n14, c14, rfl, hv, hb14, hn14⟩
      try simp only [val_limbs] at hv
      try simp only [val_nil] at hv
      replace ha := ha.below hb14
      replace hb := hb.below hb14
      replace hc := hc.below hb14
      replace hd := hd.below hb14
      replace hS := below_step hb14 hS
      clear hb14
      go_wp2_with fail
      refine (same_num_yes hd hv rfl).mono ?_
      rintro e w15 ⟨rfl, hb15⟩
      replace ha := ha.below hb15
      replace hb := hb.below hb15
      replace hc := hc.below hb15
      replace hd := hd.below hb15
      replace hv := hv.below hb15
      replace hS := below_step hb15 hS
      clear hb15
      clear hd hv
      go_wp2
      go_ret
      exact ⟨by rfl, hS⟩
end Go.Proofs.Ytpfhohfcohkhnaa
