/- Least weights in memory; the walks of never, least, None, Least, Zero, One. -/
import Derived.Test.YtjadgomakoaibaaLstMath
import Derived.Test.YtjadgomakoaibaaSemi
import Derived.Test.YtjadgomakoaibaaMono
import Derived.Test.YtjadgomakoaibaaDivMod
namespace Go.Proofs.Ytjadgomakoaibaa
open Go.RowKit

/-- A struct variable of a least weight, in block g. -/
def BoxW (w : World) (g : Nat) (z : Int) (A : Option Addr) (n c : Nat) : Prop := w.heap[g]? = some (.cells #[.int .i64 z, .slice A n c] 51) ∧ g < w.heap.size
/-- No limb lies in block g. -/
def NoLimb (w : World) (g : Nat) : Prop := ∀ o x, w.cell? ⟨g, o, none⟩ ≠ some (.int .u32 x)
section
variable {w w' W : World} {z : Int} {A : Option Addr} {n c K g : Nat} {x : LW} {l k : List Nat} {B : Option Addr} {m d : Nat}
theorem bcell' {W w1 : World} (hb : Below W.heap.size W w1) : (∀ b o, b < W.heap.size → w1.cell? ⟨b, o, none⟩ = W.cell? ⟨b, o, none⟩) := fun b o h => hb.cell (p := ⟨b, o, none⟩) h
theorem BoxW.new (w : World) (z : Int) (A : Option Addr) (n c : Nat) : BoxW (w.alloc (.cells #[.int .i64 z, .slice A n c] 51)) w.heap.size z A n c := ⟨heap_alloc_new w _, by simp⟩
theorem BoxW.below (h : BoxW w g z A n c) (hb : Below w.heap.size w w') : BoxW w' g z A n c := ⟨(hb.block g h.2).trans h.1, Nat.lt_of_lt_of_le h.2 hb.size⟩
theorem BoxW.later (h : BoxW W g z A n c) (hb : From W w') : BoxW w' g z A n c := h.below hb
theorem BoxW.cells (h : BoxW w g z A n c) : w.cell? ⟨g, 0, none⟩ = some (.int .i64 z) ∧ w.cell? ⟨g, 1, none⟩ = some (.slice A n c) := by
  refine ⟨?_, ?_⟩ <;> (rw [cell_of_row _ _ _ _ _ _ h.1]; rfl)
theorem BoxW.free (h : BoxW w g z A n c) : w.frozen? ⟨g, 0, none⟩ = false ∧ w.frozen? ⟨g, 1, none⟩ = false := by simp [World.frozen?, h.1]
theorem BoxW.noLimb (h : BoxW w g z A n c) : NoLimb w g := by
  intro o x hx
  rw [cell_of_row _ _ _ _ _ _ h.1] at hx
  match o, hx with
  | 0, hx => simp at hx
  | 1, hx => simp at hx
  | o + 2, hx => simp at hx
theorem BoxW.store (h : BoxW w g z A n c) (z' : Int) (A' : Option Addr) (n' c' : Nat) : BoxW ((w.setCell ⟨g, 0, none⟩ (.int .i64 z')).setCell ⟨g, 1, none⟩ (.slice A' n' c')) g z' A' n' c' := by
  refine ⟨?_, by simpa [World.setCell] using h.2⟩
  simp [World.setCell, Array.getElem?_modify, h.1]
theorem onlyW (w : World) (g : Nat) (a b : Value) : w.grownBy ((w.setCell ⟨g, 0, none⟩ a).setCell ⟨g, 1, none⟩ b) (some g) := only_setCell (only_setCell (only_refl w g) a) b
theorem belowW {W w : World} {g : Nat} (h : Below W.heap.size W w) (hg : W.heap.size ≤ g) (a b : Value) : Below W.heap.size W ((w.setCell ⟨g, 0, none⟩ a).setCell ⟨g, 1, none⟩ b) := (h.setCell hg a).setCell hg b
theorem BoxW.grown {g' : Nat} (h : BoxW W g z A n c) (ho : W.grownBy w' (some g')) (hne : g ≠ g') : BoxW w' g z A n c := ⟨(ho.block g h.2 (by simpa using hne)).trans h.1, Nat.lt_of_lt_of_le h.2 ho.size⟩
theorem Rd.farW (h : Rd w A n c l) (hg : w.grownBy w' (some g)) (hno : NoLimb w g) : Rd w' A n c l :=
  ⟨h.len, h.cap, h.max, h.lims, fun hn => by
    obtain ⟨b, off, e, hlt, hc⟩ := h.cells hn
    have hne : b ≠ g := by
      rintro rfl
      exact hno _ _ (hc 0 hn)
    exact ⟨b, off, e, Nat.lt_of_lt_of_le hlt hg.size, fun j hj => hg.cell (hc j hj) (by simpa using hne)⟩⟩
/-- A least weight in any form, of the value x. -/
structure RawW (w : World) (z : Int) (A : Option Addr) (n c : Nat) (x : LW) (K : Nat) : Prop where
  ex : ∃ l, Rd w A n c l ∧ lvW z (val l) = x
  hn : n ≤ K
/-- A least weight in its canonical form. -/
structure CanLW (w : World) (A : Option Addr) (n c : Nat) (x : LW) (K : Nat) : Prop where
  num : Rd w A n c (limbs x.2)
  hn : n ≤ K
  can : CanW x
theorem RawW.below (h : RawW w z A n c x K) (hb : Below w.heap.size w w') : RawW w' z A n c x K := by
  obtain ⟨⟨l, h1, h2⟩, hn⟩ := h
  exact ⟨⟨l, h1.below hb, h2⟩, hn⟩
theorem CanLW.below (h : CanLW w A n c x K) (hb : Below w.heap.size w w') : CanLW w' A n c x K := ⟨h.num.below hb, h.hn, h.can⟩
theorem CanLW.raw (h : CanLW w A n c x K) : RawW w x.1 A n c x K := ⟨⟨_, h.num, by rw [val_limbs, lvW_self h.can]⟩, h.hn⟩
theorem CanLW.wide {L : Nat} (h : CanLW w A n c x K) (hK : K ≤ L) : CanLW w A n c x L := ⟨h.num, Nat.le_trans h.hn hK, h.can⟩
theorem CanLW.far (h : CanLW w A n c x K) (hg : w.grownBy w' (some g)) (hno : NoLimb w g) : CanLW w' A n c x K := ⟨h.num.farW hg hno, h.hn, h.can⟩
theorem RawW.far (h : RawW w z A n c x K) (hg : w.grownBy w' (some g)) (hno : NoLimb w g) : RawW w' z A n c x K := by
  obtain ⟨⟨l, h1, h2⟩, hn⟩ := h
  exact ⟨⟨l, h1.farW hg hno, h2⟩, hn⟩
end
/-- A call that returns a canonical least weight. -/
def RetLW (x : LW) (K : Nat) (w : World) (e : Ending) (w' : World) : Prop := ∃ A n c, e = .returned (.agg #[.int .i64 x.1, .slice A n c]) ∧ CanLW w' A n c x K ∧ Below w.heap.size w w'
theorem noneW_can (w : World) (K : Nat) : CanLW w none 0 0 (infW, 0) K := ⟨by rw [show ((infW, 0) : LW).2 = 0 from rfl, limbs_zero]; exact Rd.nil w, Nat.zero_le _, .inl ⟨rfl, rfl⟩⟩
theorem boxW2 (w : World) (z : Int) (A : Option Addr) (n c : Nat) : ∃ W, W = (w.alloc (.cells #[.int .i64 z, .slice A n c] 51)).alloc (.cells #[.int .i64 0, .slice none 0 0] 51) ∧ Below w.heap.size w W ∧ BoxW W w.heap.size z A n c ∧ BoxW W (w.heap.size + 1) 0 none 0 0 := by
  refine ⟨_, rfl, ((Below.refl _ _).alloc (Nat.le_refl _) _).alloc (by simp) _, (BoxW.new w _ _ _ _).below (below_alloc _ _), ?_⟩
  have := BoxW.new (w.alloc (.cells #[.int .i64 z, .slice A n c] 51)) 0 none 0 0
  simpa using this
theorem boxW1 (w : World) (o : Obj) : ∃ W, W = (w.alloc o).alloc (.cells #[.int .i64 0, .slice none 0 0] 51) ∧ Below w.heap.size w W ∧ BoxW W (w.heap.size + 1) 0 none 0 0 := by
  refine ⟨_, rfl, ((Below.refl _ _).alloc (Nat.le_refl _) _).alloc (by simp) _, ?_⟩
  have := BoxW.new (w.alloc o) 0 none 0 0
  simpa using this

theorem never_any (w : World) (K : Nat) : Calls Try.prog 83 #[] w (RetLW (infW, 0) K w) := by
  have q := BoxW.new w 0 none 0 0
  have hb := below_alloc w (.cells #[.int .i64 0, .slice none 0 0] 51)
  go_enter Try.func83, Try.ntmps83
  go_wp2
  exact bodyPost_ret (v := .agg #[.int .i64 4611686018427387904, .slice none 0 0]) (by simp [results, Try.results83, go_sem]) rfl ⟨none, 0, 0, rfl, noneW_can _ _, by first | exact belowW hb (Nat.le_refl _) _ _ | exact (hb.setCell (Nat.le_refl _) _) | exact below_alloc w _⟩

theorem none_any (w : World) (K : Nat) : Calls Try.prog 38 #[] w (RetLW (infW, 0) K w) := by
  have q := BoxW.new w 0 none 0 0
  have hb := below_alloc w (.cells #[.int .i64 0, .slice none 0 0] 51)
  go_enter Try.func38, Try.ntmps38
  go_wp2
  exact bodyPost_ret (v := .agg #[.int .i64 4611686018427387904, .slice none 0 0]) (by simp [results, Try.results38, go_sem]) rfl ⟨none, 0, 0, rfl, noneW_can _ _, by first | exact belowW hb (Nat.le_refl _) _ _ | exact (hb.setCell (Nat.le_refl _) _) | exact below_alloc w _⟩

set_option maxHeartbeats 2000000 in
theorem least_any (z : Int) (A : Option Addr) (n c : Nat) (x : LW) (K : Nat) (w : World) (h : RawW w z A n c x K) (hK : K ≤ 1000) :
    Calls Try.prog 82 #[.agg #[.int .i64 z, .slice A n c]] w (RetLW x K w) := by
  obtain ⟨W, hW, hS, q1, q3⟩ := boxW2 w z A n c
  obtain ⟨⟨l, hl, hx⟩, hn⟩ := h.below hS
  have HW := hide hW
  have Q1 := hide q1
  have Q3 := hide q3
  have hc1 := q1.cells
  have hz3 := q3.2
  have hi : infW = 4611686018427387904 := rfl
  clear hW q1 q3 h
  by_cases hN : val l = 0
  · have HX : Hid (x = (infW, 0)) := by rw [Hid, ← hx, hN]; exact if_pos (.inl rfl)
    have hcall := trim1 hl (by omega)
    rw [hN] at hcall
    clear hx hN hi
    go_enter Try.func82, Try.ntmps82
    go_wp2_with fail
    rw [← HW.out]
    refine hcall.mono ?_
    rintro e w1 ⟨A1, n1, c1, rfl, h1, hb1, hn1⟩
    obtain rfl : n1 = 0 := by
      have := h1.len
      rw [limbs_zero] at this
      exact this.symm
    clear hcall hc1
    go_wp2_with fail
    refine (never_any _ K).mono ?_
    rintro e w2 ⟨A2, n2, c2, rfl, h2, hb2⟩
    have q32 := (Q3.out.below hb1).below hb2
    have hcg := q32.cells
    have hfg := q32.free
    go_wp2
    exact bodyPost_ret (v := .agg #[.int .i64 infW, .slice A2 n2 c2]) (by simp [results, Try.results82, go_sem, hcg]) rfl ⟨A2, n2, c2, by rw [HX.out], by rw [HX.out]; exact h2.far (onlyW _ _ _ _) q32.noLimb, belowW (below_step hb2 (below_step hb1 hS)) (by omega) _ _⟩
  · have hcall := trim1 hl (by omega)
    have HN := hide hN
    by_cases hz : infW ≤ z
    · have HX : Hid (x = (infW, 0)) := by rw [Hid, ← hx]; exact if_pos (.inr hz)
      have hz1 : (4611686018427387904 : Int) ≤ z := by omega
      clear hx hN hi hz
      go_enter Try.func82, Try.ntmps82
      go_wp2_with fail
      rw [← HW.out]
      refine hcall.mono ?_
      rintro e w1 ⟨A1, n1, c1, rfl, h1, hb1, hn1⟩
      have hn0 : ((n1 : Int) == 0) = false := by
        have : n1 ≠ 0 := by rw [← h1.len]; exact limbs_len_pos HN.out
        simp; exact this
      clear hcall hc1
      have hc1 := (Q1.out.below hb1).cells
      go_wp2_with fail
      refine (never_any _ K).mono ?_
      rintro e w2 ⟨A2, n2, c2, rfl, h2, hb2⟩
      have q32 := (Q3.out.below hb1).below hb2
      clear hc1
      have hcg := q32.cells
      have hfg := q32.free
      go_wp2
      exact bodyPost_ret (v := .agg #[.int .i64 infW, .slice A2 n2 c2]) (by simp [results, Try.results82, go_sem, hcg]) rfl ⟨A2, n2, c2, by rw [HX.out], by rw [HX.out]; exact h2.far (onlyW _ _ _ _) q32.noLimb, belowW (below_step hb2 (below_step hb1 hS)) (by omega) _ _⟩
    · have HX : Hid (x = (max z 0, val l)) := by rw [Hid, ← hx]; exact if_neg (by simp only [not_or]; exact ⟨hN, hz⟩)
      have HC := hide (show CanW x by rw [← hx]; exact lvW_can _ _)
      have hz1 : ¬ (4611686018427387904 : Int) ≤ z := by omega
      have hz2 : z < 4611686018427387904 := by omega
      obtain ⟨y, hy⟩ : ∃ y, y = max z 0 := ⟨_, rfl⟩
      have HY := hide hy
      have hmx : max z 0 = y := hy.symm
      clear hx hN hi hz hy
      go_enter Try.func82, Try.ntmps82
      go_wp2_with fail
      rw [← HW.out]
      refine hcall.mono ?_
      rintro e w1 ⟨A1, n1, c1, rfl, h1, hb1, hn1⟩
      have hn0 : ((n1 : Int) == 0) = false := by
        have : n1 ≠ 0 := by rw [← h1.len]; exact limbs_len_pos HN.out
        simp; exact this
      clear hcall hc1
      have hc1 := (Q1.out.below hb1).cells
      have q31 := Q3.out.below hb1
      have hcg := q31.cells
      have hfg := q31.free
      go_wp2
      all_goals
        refine bodyPost_ret (v := .agg #[.int .i64 y, .slice A1 n1 c1]) (by simp [results, Try.results82, go_sem, hcg]) rfl ⟨A1, n1, c1, by rw [HX.out, ← HY.out], ?_, belowW (below_step hb1 hS) (by omega) _ _⟩
        exact ⟨Rd.farW (by rw [HX.out]; exact h1) (onlyW _ _ _ _) q31.noLimb, by omega, HC.out⟩

set_option maxHeartbeats 1000000 in
theorem leasts_zero (w : World) (K : Nat) : Calls Try.prog 81 #[.agg #[]] w (RetLW (infW, 0) K w) := by
  obtain ⟨W, hW, hS, q3⟩ := boxW1 w (.cells #[] 54)
  have HW := hide hW
  clear hW
  go_enter Try.func81, Try.ntmps81
  go_wp2_with fail
  rw [← HW.out]
  refine (never_any _ K).mono ?_
  rintro e w2 ⟨A2, n2, c2, rfl, h2, hb2⟩
  have q32 := q3.below hb2
  have hcg := q32.cells
  have hfg := q32.free
  go_wp2
  exact bodyPost_ret (v := .agg #[.int .i64 infW, .slice A2 n2 c2]) (by simp [results, Try.results81, go_sem, hcg]) rfl ⟨A2, n2, c2, rfl, h2.far (onlyW _ _ _ _) q32.noLimb, belowW (below_step hb2 hS) (by omega) _ _⟩
set_option maxHeartbeats 1000000 in
theorem leasts_one (w : World) : Calls Try.prog 80 #[.agg #[]] w (RetLW (0, 1) 1 w) := by
  obtain ⟨W, hW, hS, q3⟩ := boxW1 w (.cells #[] 54)
  have HW := hide hW
  clear hW
  go_enter Try.func80, Try.ntmps80
  go_wp2_with fail
  rw [← HW.out]
  refine (of_any 1 _ (by omega)).mono ?_
  rintro e w1 ⟨A1, n1, c1, rfl, h1, hb1⟩
  have hn1 : n1 ≤ 1 := by rw [← h1.len]; exact length_limbs_le (by omega)
  have q32 := q3.below hb1
  have hcg := q32.cells
  have hfg := q32.free
  go_wp2
  exact bodyPost_ret (v := .agg #[.int .i64 0, .slice A1 n1 c1]) (by simp [results, Try.results80, go_sem, hcg]) rfl ⟨A1, n1, c1, rfl, ⟨Rd.farW h1 (onlyW _ _ _ _) q32.noLimb, hn1, .inr ⟨by decide, by decide, by decide⟩⟩, by first | exact belowW (below_step hb1 hS) (by omega) _ _ | exact (below_step hb1 hS).setCell (by simp; omega) _⟩
end Go.Proofs.Ytjadgomakoaibaa
