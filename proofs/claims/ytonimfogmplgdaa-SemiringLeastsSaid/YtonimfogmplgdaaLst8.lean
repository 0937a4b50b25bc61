/- The reference's comparison of least weights. -/
import Derived.Test.YtonimfogmplgdaaLst7
import Derived.Test.YtonimfogmplgdaaLst4
namespace Go.Proofs.Ytonimfogmplgdaa
open Go.RowKit
theorem boxR2 (w : World) (z : Int) (A : Option Addr) (n c : Nat) (z2 : Int) (A2 : Option Addr) (n2 c2 : Nat) :
    ∃ W, W = (w.alloc (.cells #[.int .i64 z, .slice A n c] 25)).alloc (.cells #[.int .i64 z2, .slice A2 n2 c2] 25) ∧ Below w.heap.size w W ∧
      BoxW W w.heap.size z A n c ∧ BoxW W (w.heap.size + 1) z2 A2 n2 c2 := by
  have b1 := below_alloc w (.cells #[.int .i64 z, .slice A n c] 25)
  have b2 := below_alloc (w.alloc (.cells #[.int .i64 z, .slice A n c] 25)) (.cells #[.int .i64 z2, .slice A2 n2 c2] 25)
  have q1 := (BoxW.new w z A n c).below b2
  have q2 := BoxW.new (w.alloc (.cells #[.int .i64 z, .slice A n c] 25)) z2 A2 n2 c2
  refine ⟨_, rfl, below_step b2 b1, q1, ?_⟩
  have e : (w.alloc (.cells #[.int .i64 z, .slice A n c] 25)).heap.size = w.heap.size + 1 := by simp
  rw [e] at q2; exact q2

set_option maxHeartbeats 4000000 in
theorem rsameLeast (A : Option Addr) (n c : Nat) (x : LW) (K : Nat) (A2 : Option Addr) (n2 c2 : Nat) (y : LW) (L : Nat) (w : World) (h : CanLW w A n c x K) (h' : CanLW w A2 n2 c2 y L) :
    Calls Try.prog 8 #[.agg #[.int .i64 x.1, .slice A n c], .agg #[.int .i64 y.1, .slice A2 n2 c2]] w (Makes (.bool (decide (x = y))) w) := by
  have HN := hide (@same_ne x y)
  have HS := hide (@same_eq x y)
  obtain ⟨W, hW, hS, q1, q2⟩ := boxR2 w x.1 A n c y.1 A2 n2 c2
  have hr1 := h.below hS
  have hr2 := h'.below hS
  obtain ⟨xa, hxa⟩ : ∃ xa, x.1 = xa := ⟨_, rfl⟩
  obtain ⟨ya, hya⟩ : ∃ ya, y.1 = ya := ⟨_, rfl⟩
  rw [hxa, hya] at hW
  rw [hxa] at q1
  rw [hya] at q2
  rw [hxa, hya]
  have HX1 := hide hxa
  have HY1 := hide hya
  have HW := hide hW
  have hc1 := q1.cells
  have hc2 := q2.cells
  clear hW q1 q2 h h' hxa hya
  by_cases he : xa = ya
  · have hl : (xa == ya) = true := by simp; omega
    have HE := hide (HS.out (by rw [HX1.out, HY1.out]; exact he))
    clear HN HS he
    go_enter Try.func8, Try.ntmps8
    go_wp2_with fail
    rw [← HW.out]
    refine (rsame_any _ _ _ _ _ _ _ _ _ hr1.num hr2.num).mono ?_
    rw [HE.out]
    rintro e w9 ⟨rfl, hb9⟩
    go_wp2
    go_ret
    exact ⟨by rfl, below_step hb9 hS⟩
  · have hl : (xa == ya) = false := by simp; omega
    have HE := hide (HN.out (by rw [HX1.out, HY1.out]; exact he))
    clear HN HS he
    go_enter Try.func8, Try.ntmps8
    go_wp2
    go_ret
    exact ⟨by rw [HE.out]; rfl, by rw [← HW.out]; exact hS⟩
end Go.Proofs.Ytonimfogmplgdaa
