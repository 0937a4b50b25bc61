/- The walks of the semiring of least weights: Add, Mul, Same. The walk of the product of least weights. The walk of the comparison of least weights. -/
import Derived.Test.YtjadgomakoaibaaLst
import Derived.Test.YtjadgomakoaibaaMono2
import Derived.Test.YtjadgomakoaibaaCosts
import Derived.Test.YtjadgomakoaibaaEqual
namespace Go.Proofs.Ytjadgomakoaibaa
open Go.RowKit

def IsBoxW (b : Nat) (v : Value) (w : World) : Prop := ∃ g, b ≤ g ∧ v = .pointer (some ⟨g, 0, none⟩) ∧ BoxW w g 0 none 0 0
theorem IsBoxW.lasting {b : Nat} : ∀ v w w', Below w.heap.size w w' → IsBoxW b v w → IsBoxW b v w' := fun _ _ _ hb ⟨g, h0, h1, h2⟩ => ⟨g, h0, h1, h2.below hb⟩
theorem IsBoxW.ptr {b : Nat} : ∀ v w, IsBoxW b v w → ∃ g, v = .pointer (some ⟨g, 0, none⟩) ∧ g < w.heap.size := fun _ _ ⟨g, _, h1, h2⟩ => ⟨g, h1, h2.2⟩
def IsLW (x : LW) (K : Nat) (v : Value) (w : World) : Prop := ∃ A n c, v = .agg #[.int .i64 x.1, .slice A n c] ∧ CanLW w A n c x K
theorem IsLW.lasting {x : LW} {K : Nat} : ∀ v w w', Below w.heap.size w w' → IsLW x K v w → IsLW x K v w' := fun _ _ _ hb ⟨A, n, c, h1, h2⟩ => ⟨A, n, c, h1, h2.below hb⟩
def IsLN (N K : Nat) (v : Value) (w : World) : Prop := ∃ A n c, v = .slice A n c ∧ Rd w A n c (limbs N) ∧ n ≤ K
theorem IsLN.lasting {N K : Nat} : ∀ v w w', Below w.heap.size w w' → IsLN N K v w → IsLN N K v w' := fun _ _ _ hb ⟨A, n, c, h1, h2, h3⟩ => ⟨A, n, c, h1, h2.below hb, h3⟩
def IsLNL (l k : List Nat) (v : Value) (w : World) : Prop := ∃ g, v = .slice (some ⟨g, 0, none⟩) 2 2 ∧ RdL w (some ⟨g, 0, none⟩) 2 2 [l, k]
theorem IsLNL.lasting {l k : List Nat} : ∀ v w w', Below w.heap.size w w' → IsLNL l k v w → IsLNL l k v w' := fun _ _ _ hb ⟨g, h1, h2⟩ => ⟨g, h1, h2.below hb⟩
theorem From.lasting' {W : World} : ∀ w w', Below w.heap.size w w' → From W w → From W w' := fun _ _ hb h => From.step h hb
theorem boxesW (w : World) (o : Obj) (z : Int) (A : Option Addr) (n c : Nat) (z2 : Int) (A2 : Option Addr) (n2 c2 : Nat) :
    ∃ W, W = ((w.alloc o).alloc (.cells #[.int .i64 z, .slice A n c] 51)).alloc (.cells #[.int .i64 z2, .slice A2 n2 c2] 51) ∧ Below w.heap.size w W ∧ BoxW W (w.heap.size + 1) z A n c ∧ BoxW W (w.heap.size + 1 + 1) z2 A2 n2 c2 := by
  have e : (w.alloc o).heap.size = w.heap.size + 1 := by simp
  refine ⟨_, rfl, (((Below.refl _ _).alloc (Nat.le_refl _) _).alloc (by simp) _).alloc (by simp; omega) _, ?_, ?_⟩
  · have := (BoxW.new (w.alloc o) z A n c).below (below_alloc _ (.cells #[.int .i64 z2, .slice A2 n2 c2] 51))
    rwa [e] at this
  · have := BoxW.new ((w.alloc o).alloc (.cells #[.int .i64 z, .slice A n c] 51)) z2 A2 n2 c2
    simpa using this
theorem lmulL {w : World} {A : Option Addr} {a b : Nat} {l k : List Nat} (h : RdL w A 2 2 [l, k]) (hl : l.length ≤ a) (hk : k.length ≤ b) (ha : a ≤ 100000) (hb : b ≤ 100000) :
    Calls Try.prog 72 #[.slice A 2 2] w (RetB (val l * val k) (a + b) w) := by
  have hlm := h.lims
  refine (mul_any A 2 2 _ w h 100000 (fun x hx => ?_) (by omega) (by omega)).mono ?_
  · simp at hx
    rcases hx with rfl | rfl <;> omega
  · intro e w' hr
    have hv : prodV [l, k] = val l * val k := by simp [prodV]
    rw [hv] at hr
    exact hr.b (mul_lt_pow (Nat.lt_of_lt_of_le (val_lt (hlm l (by simp))) (pow_le_pow_limb hl)) (Nat.lt_of_lt_of_le (val_lt (hlm k (by simp))) (pow_le_pow_limb hk)))
theorem laddL {w : World} {A : Option Addr} {a : Nat} {l k : List Nat} (h : RdL w A 2 2 [l, k]) (hl : l.length ≤ a) (hk : k.length ≤ a) (ha : a ≤ 100000) :
    Calls Try.prog 71 #[.slice A 2 2] w (RetB (val l + val k) (a + 1) w) := by
  have hlm := h.lims
  refine (add_any A 2 2 _ w h 100000 (fun x hx => ?_) (by omega) (by omega)).mono ?_
  · simp at hx
    rcases hx with rfl | rfl <;> omega
  · intro e w' hr
    have hv : sumV [l, k] = val l + val k := by simp [sumV]
    rw [hv] at hr
    refine hr.b ?_
    have h1 := Nat.lt_of_lt_of_le (val_lt (hlm l (by simp))) (pow_le_pow_limb hl)
    have h2 := Nat.lt_of_lt_of_le (val_lt (hlm k (by simp))) (pow_le_pow_limb hk)
    rw [Nat.pow_succ]
    omega
theorem rdl_two2 {w : World} {A B : Option Addr} {n c m d g : Nat} {l k : List Nat} (hg : g = w.heap.size) (h : Rd w A n c l) (h' : Rd w B m d k) : RdL (w.alloc (.cells #[.slice A n c, .slice B m d] 37)) (some ⟨g, 0, none⟩) 2 2 [l, k] := by
  subst hg; exact rdl_two 37 h h'
def IsL40 (z : Int) (N K : Nat) (v : Value) (w : World) : Prop := ∃ A n c, v = .agg #[.int .i64 z, .slice A n c] ∧ Rd w A n c (limbs N) ∧ n ≤ K
theorem IsL40.lasting {z : Int} {N K : Nat} : ∀ v w w', Below w.heap.size w w' → IsL40 z N K v w → IsL40 z N K v w' := fun _ _ _ hb ⟨A, n, c, h1, h2, h3⟩ => ⟨A, n, c, h1, h2.below hb, h3⟩

set_option maxHeartbeats 8000000 in
theorem leasts_add1 (z : Int) (A : Option Addr) (n c : Nat) (x : LW) (K : Nat) (z2 : Int) (A2 : Option Addr) (n2 c2 : Nat) (y : LW) (L : Nat) (w : World) (h : RawW w z A n c x K) (h' : RawW w z2 A2 n2 c2 y L) (hK : K ≤ 900) (hL : L ≤ 900) (hlt : x.1 < y.1) :
    Calls Try.prog 78 #[.agg #[], .agg #[.int .i64 z, .slice A n c], .agg #[.int .i64 z2, .slice A2 n2 c2]] w (RetLW (addW x y) (K + L + 1) w) := by
  have HA : Hid (addW x y = x) := if_pos hlt
  have HL := hide hlt
  clear hlt
  obtain ⟨W0, hW0, hS0, q1, q2⟩ := boxesW w (.cells #[] 54) z A n c z2 A2 n2 c2
  have hz0 : W0.heap.size = w.heap.size + 1 + 1 + 1 := by rw [hW0]; simp
  have q3 := BoxW.new W0 0 none 0 0
  rw [hz0] at q3
  have hba := below_alloc W0 (.cells #[.int .i64 0, .slice none 0 0] 51)
  have Q1 := hide (q1.below hba)
  have Q2 := hide (q2.below hba)
  have hS := below_step hba hS0
  have hr1 := h.below hS
  have hr2 := h'.below hS
  have HW0 := hide hW0
  obtain ⟨W, hW⟩ : ∃ W, W = W0.alloc (.cells #[.int .i64 0, .slice none 0 0] 51) := ⟨_, rfl⟩
  rw [← hW] at Q1 Q2 q3 hS hr1 hr2
  have Q3 := hide q3
  have HW := hide hW
  clear hW hW0 hba q1 q2 q3 h h' hS0 hz0
  go_enter Try.func78, Try.ntmps78
  go_wp2_with fail
  rw [← HW0.out, ← HW.out]
  refine wp_region_tab2 6 41 (fun i => i == 4 || i == 5) [IsV (.agg #[.int .i64 z, .slice A n c]), IsLW x K, IsV (.agg #[.int .i64 z2, .slice A2 n2 c2]), IsLW y L, IsBoxW W.heap.size, IsBoxW W.heap.size] (From W) (by kernel_rfl) (by kernel_rfl) (by kernel_rfl) rfl From.lasting' (From.drew (From.refl W)) ?_
  simp only [List.take_succ_cons, List.drop_succ_cons, List.take_zero, List.drop_zero]
  refine Tab2.cons IsV.lasting (fun h9 => absurd h9 (by decide)) (fun wx hx hd => ?_) (fun v9 => ?_)
  · skip
    clear hd
    intro KK hK
    replace hK := Shut.weak hK (by decide)
    have hcell := (Q1.out.later hx).cells
    go_simp
    exact hK.out _ _ rfl (Below.refl _ _)
  simp only [Act.put, List.setIfInBounds_toArray, List.set_cons_zero, List.set_cons_succ]
  refine Tab2.cons IsLW.lasting (fun h9 => absurd h9 (by decide)) (fun wx hx hd => ?_) (fun v10 => ?_)
  · skip
    have e9 : v9 = _ := (hd _ (.head _) (by kernel_rfl) : (IsV (.agg #[.int .i64 z, .slice A n c])) v9 wx)
    subst e9
    clear hd
    intro KK hK
    replace hK := Shut.weak hK (by decide)
    go_simp
    refine (least_any _ _ _ _ x K _ (hr1.below hx.out) (by omega)).mono ?_
    rintro e w' ⟨A', n', c', rfl, hc', hb'⟩
    exact hK.out _ _ ⟨A', n', c', rfl, hc'⟩ hb'
  simp only [Act.put, List.setIfInBounds_toArray, List.set_cons_zero, List.set_cons_succ]
  refine Tab2.cons IsV.lasting (fun h9 => absurd h9 (by decide)) (fun wx hx hd => ?_) (fun v11 => ?_)
  · skip
    clear hd
    intro KK hK
    replace hK := Shut.weak hK (by decide)
    have hcell := (Q2.out.later hx).cells
    go_simp
    exact hK.out _ _ rfl (Below.refl _ _)
  simp only [Act.put, List.setIfInBounds_toArray, List.set_cons_zero, List.set_cons_succ]
  refine Tab2.cons IsLW.lasting (fun h9 => absurd h9 (by decide)) (fun wx hx hd => ?_) (fun v12 => ?_)
  · skip
    have e11 : v11 = _ := (hd _ (.head _) (by kernel_rfl) : (IsV (.agg #[.int .i64 z2, .slice A2 n2 c2])) v11 wx)
    subst e11
    clear hd
    intro KK hK
    replace hK := Shut.weak hK (by decide)
    go_simp
    refine (least_any _ _ _ _ y L _ (hr2.below hx.out) (by omega)).mono ?_
    rintro e w' ⟨A', n', c', rfl, hc', hb'⟩
    exact hK.out _ _ ⟨A', n', c', rfl, hc'⟩ hb'
  simp only [Act.put, List.setIfInBounds_toArray, List.set_cons_zero, List.set_cons_succ]
  refine Tab2.cons IsBoxW.lasting (fun _ => IsBoxW.ptr) (fun wx hx hd => ?_) (fun v7 => ?_)
  · skip
    clear hd
    intro KK hK
    go_simp
    exact hK.out _ _ ⟨⟨_, hx.out.size, rfl, BoxW.new _ _ _ _ _⟩, fun _ => rfl⟩ (below_alloc _ _)
  simp only [Act.put, List.setIfInBounds_toArray, List.set_cons_zero, List.set_cons_succ]
  refine Tab2.cons IsBoxW.lasting (fun _ => IsBoxW.ptr) (fun wx hx hd => ?_) (fun v8 => ?_)
  · skip
    clear hd
    intro KK hK
    go_simp
    exact hK.out _ _ ⟨⟨_, hx.out.size, rfl, BoxW.new _ _ _ _ _⟩, fun _ => rfl⟩ (below_alloc _ _)
  simp only [Act.put, List.setIfInBounds_toArray, List.set_cons_zero, List.set_cons_succ]
  refine Tab2.nil fun wx hx hd hdif => ?_
  have hne : v7 ≠ v8 := hdif _ (.tail _ (.head _)) _ (.head _) rfl rfl (show (4 : Nat) ≠ 5 by decide)
  obtain ⟨A10, n10, c10, rfl, h10⟩ := (hd _ (.tail _ (.tail _ (.tail _ (.tail _ (.head _))))) : (IsLW x K) v10 wx)
  obtain ⟨A12, n12, c12, rfl, h12⟩ := (hd _ (.tail _ (.tail _ (.head _))) : (IsLW y L) v12 wx)
  obtain ⟨g7, j7, rfl, h7⟩ := (hd _ (.tail _ (.head _)) : (IsBoxW W.heap.size) v7 wx)
  obtain ⟨g8, j8, rfl, h8⟩ := (hd _ (.head _) : (IsBoxW W.heap.size) v8 wx)
  clear hd hdif
  have hx7 := h7.cells
  have hf7 := h7.free
  have hx8 := h8.cells
  have hf8 := h8.free
  have hg : g7 ≠ g8 := fun h9 => hne (by rw [h9])
  have hg' : g8 ≠ g7 := fun h9 => hg h9.symm
  clear hne
  obtain ⟨xa, hxa⟩ : ∃ xa, x.1 = xa := ⟨_, rfl⟩
  obtain ⟨ya, hya⟩ : ∃ ya, y.1 = ya := ⟨_, rfl⟩
  rw [hxa, hya]
  have HX1 := hide hxa
  have HY1 := hide hya
  clear hxa hya
  have o7 := onlyW wx g7 (.int .i64 xa) (.slice A10 n10 c10)
  have p7 := h7.store xa A10 n10 c10
  have p8 := BoxW.grown (g' := g7) h8 o7 hg'
  have o8 := onlyW ((wx.setCell ⟨g7, 0, none⟩ (.int .i64 xa)).setCell ⟨g7, 1, none⟩ (.slice A10 n10 c10)) g8 (.int .i64 ya) (.slice A12 n12 c12)
  have t7 := BoxW.grown (g' := g8) p7 o8 hg
  have t8 := p8.store ya A12 n12 c12
  have t3 := BoxW.grown (g' := g8) (BoxW.grown (g' := g7) (Q3.out.later hx) o7 (by have := Q3.out.2; omega)) o8 (by have := Q3.out.2; omega)
  have cx := (h10.far o7 h7.noLimb).far o8 p8.noLimb
  have cy := (h12.far o7 h7.noLimb).far o8 p8.noLimb
  have hWs := hS.size
  have hB := belowW (g := g8) (belowW (g := g7) (below_step hx.out hS) (by omega) (.int .i64 xa) (.slice A10 n10 c10)) (by omega) (.int .i64 ya) (.slice A12 n12 c12)
  have HF := hide (And.intro t7 (And.intro t8 (And.intro t3 (And.intro cx (And.intro cy hB)))))
  clear t7 t8 t3 cx cy hB o7 p7 p8 o8 h7 h8 h10 h12 hr1 hr2 hS hx hWs HW HW0 Q1 Q2 Q3
  go_upto_region 2 with (fail)
  obtain ⟨t7, t8, t3, cx, cy, hB⟩ := HF.out
  clear HF
  obtain ⟨V, hV⟩ : ∃ V, V = (((wx.setCell ⟨g7, 0, none⟩ (.int .i64 xa)).setCell ⟨g7, 1, none⟩ (.slice A10 n10 c10)).setCell ⟨g8, 0, none⟩ (.int .i64 ya)).setCell ⟨g8, 1, none⟩ (.slice A12 n12 c12) := ⟨_, rfl⟩
  rw [← hV] at t7 t8 t3 cx cy hB
  try rw [← hV]
  clear hx7 hf7 hx8 hf8 hV
  have T7 := hide t7
  have T8 := hide t8
  have T3 := hide t3
  have hcx7 := t7.cells
  have hcx8 := t8.cells
  have hcg := t3.cells
  have hfg := t3.free
  have hz3 := t3.2
  clear t7 t8 t3 hg' hg
  have hl2 : xa < ya := by have := HX1.out; have := HY1.out; have := HL.out; omega
  go_wp2
  exact bodyPost_ret (v := .agg #[.int .i64 xa, .slice A10 n10 c10]) (by simp [results, Try.results78, go_sem, hcg]) rfl ⟨A10, n10, c10, by rw [HA.out, HX1.out], by rw [HA.out]; exact (cx.wide (by omega)).far (onlyW _ _ _ _) T3.out.noLimb, belowW hB (by omega) _ _⟩

set_option maxHeartbeats 8000000 in
theorem leasts_add2 (z : Int) (A : Option Addr) (n c : Nat) (x : LW) (K : Nat) (z2 : Int) (A2 : Option Addr) (n2 c2 : Nat) (y : LW) (L : Nat) (w : World) (h : RawW w z A n c x K) (h' : RawW w z2 A2 n2 c2 y L) (hK : K ≤ 900) (hL : L ≤ 900) (hlt : ¬ x.1 < y.1) (hgt : y.1 < x.1) :
    Calls Try.prog 78 #[.agg #[], .agg #[.int .i64 z, .slice A n c], .agg #[.int .i64 z2, .slice A2 n2 c2]] w (RetLW (addW x y) (K + L + 1) w) := by
  have HA : Hid (addW x y = y) := by rw [Hid]; unfold addW; rw [if_neg hlt, if_pos hgt]
  have HL := hide hgt
  clear hlt hgt
  obtain ⟨W0, hW0, hS0, q1, q2⟩ := boxesW w (.cells #[] 54) z A n c z2 A2 n2 c2
  have hz0 : W0.heap.size = w.heap.size + 1 + 1 + 1 := by rw [hW0]; simp
  have q3 := BoxW.new W0 0 none 0 0
  rw [hz0] at q3
  have hba := below_alloc W0 (.cells #[.int .i64 0, .slice none 0 0] 51)
  have Q1 := hide (q1.below hba)
  have Q2 := hide (q2.below hba)
  have hS := below_step hba hS0
  have hr1 := h.below hS
  have hr2 := h'.below hS
  have HW0 := hide hW0
  obtain ⟨W, hW⟩ : ∃ W, W = W0.alloc (.cells #[.int .i64 0, .slice none 0 0] 51) := ⟨_, rfl⟩
  rw [← hW] at Q1 Q2 q3 hS hr1 hr2
  have Q3 := hide q3
  have HW := hide hW
  clear hW hW0 hba q1 q2 q3 h h' hS0 hz0
  go_enter Try.func78, Try.ntmps78
  go_wp2_with fail
  rw [← HW0.out, ← HW.out]
  refine wp_region_tab2 6 41 (fun i => i == 4 || i == 5) [IsV (.agg #[.int .i64 z, .slice A n c]), IsLW x K, IsV (.agg #[.int .i64 z2, .slice A2 n2 c2]), IsLW y L, IsBoxW W.heap.size, IsBoxW W.heap.size] (From W) (by kernel_rfl) (by kernel_rfl) (by kernel_rfl) rfl From.lasting' (From.drew (From.refl W)) ?_
  simp only [List.take_succ_cons, List.drop_succ_cons, List.take_zero, List.drop_zero]
  refine Tab2.cons IsV.lasting (fun h9 => absurd h9 (by decide)) (fun wx hx hd => ?_) (fun v9 => ?_)
  · skip
    clear hd
    intro KK hK
    replace hK := Shut.weak hK (by decide)
    have hcell := (Q1.out.later hx).cells
    go_simp
    exact hK.out _ _ rfl (Below.refl _ _)
  simp only [Act.put, List.setIfInBounds_toArray, List.set_cons_zero, List.set_cons_succ]
  refine Tab2.cons IsLW.lasting (fun h9 => absurd h9 (by decide)) (fun wx hx hd => ?_) (fun v10 => ?_)
  · skip
    have e9 : v9 = _ := (hd _ (.head _) (by kernel_rfl) : (IsV (.agg #[.int .i64 z, .slice A n c])) v9 wx)
    subst e9
    clear hd
    intro KK hK
    replace hK := Shut.weak hK (by decide)
    go_simp
    refine (least_any _ _ _ _ x K _ (hr1.below hx.out) (by omega)).mono ?_
    rintro e w' ⟨A', n', c', rfl, hc', hb'⟩
    exact hK.out _ _ ⟨A', n', c', rfl, hc'⟩ hb'
  simp only [Act.put, List.setIfInBounds_toArray, List.set_cons_zero, List.set_cons_succ]
  refine Tab2.cons IsV.lasting (fun h9 => absurd h9 (by decide)) (fun wx hx hd => ?_) (fun v11 => ?_)
  · skip
    clear hd
    intro KK hK
    replace hK := Shut.weak hK (by decide)
    have hcell := (Q2.out.later hx).cells
    go_simp
    exact hK.out _ _ rfl (Below.refl _ _)
  simp only [Act.put, List.setIfInBounds_toArray, List.set_cons_zero, List.set_cons_succ]
  refine Tab2.cons IsLW.lasting (fun h9 => absurd h9 (by decide)) (fun wx hx hd => ?_) (fun v12 => ?_)
  · skip
    have e11 : v11 = _ := (hd _ (.head _) (by kernel_rfl) : (IsV (.agg #[.int .i64 z2, .slice A2 n2 c2])) v11 wx)
    subst e11
    clear hd
    intro KK hK
    replace hK := Shut.weak hK (by decide)
    go_simp
    refine (least_any _ _ _ _ y L _ (hr2.below hx.out) (by omega)).mono ?_
    rintro e w' ⟨A', n', c', rfl, hc', hb'⟩
    exact hK.out _ _ ⟨A', n', c', rfl, hc'⟩ hb'
  simp only [Act.put, List.setIfInBounds_toArray, List.set_cons_zero, List.set_cons_succ]
  refine Tab2.cons IsBoxW.lasting (fun _ => IsBoxW.ptr) (fun wx hx hd => ?_) (fun v7 => ?_)
  · skip
    clear hd
    intro KK hK
    go_simp
    exact hK.out _ _ ⟨⟨_, hx.out.size, rfl, BoxW.new _ _ _ _ _⟩, fun _ => rfl⟩ (below_alloc _ _)
  simp only [Act.put, List.setIfInBounds_toArray, List.set_cons_zero, List.set_cons_succ]
  refine Tab2.cons IsBoxW.lasting (fun _ => IsBoxW.ptr) (fun wx hx hd => ?_) (fun v8 => ?_)
  · skip
    clear hd
    intro KK hK
    go_simp
    exact hK.out _ _ ⟨⟨_, hx.out.size, rfl, BoxW.new _ _ _ _ _⟩, fun _ => rfl⟩ (below_alloc _ _)
  simp only [Act.put, List.setIfInBounds_toArray, List.set_cons_zero, List.set_cons_succ]
  refine Tab2.nil fun wx hx hd hdif => ?_
  have hne : v7 ≠ v8 := hdif _ (.tail _ (.head _)) _ (.head _) rfl rfl (show (4 : Nat) ≠ 5 by decide)
  obtain ⟨A10, n10, c10, rfl, h10⟩ := (hd _ (.tail _ (.tail _ (.tail _ (.tail _ (.head _))))) : (IsLW x K) v10 wx)
  obtain ⟨A12, n12, c12, rfl, h12⟩ := (hd _ (.tail _ (.tail _ (.head _))) : (IsLW y L) v12 wx)
  obtain ⟨g7, j7, rfl, h7⟩ := (hd _ (.tail _ (.head _)) : (IsBoxW W.heap.size) v7 wx)
  obtain ⟨g8, j8, rfl, h8⟩ := (hd _ (.head _) : (IsBoxW W.heap.size) v8 wx)
  clear hd hdif
  have hx7 := h7.cells
  have hf7 := h7.free
  have hx8 := h8.cells
  have hf8 := h8.free
  have hg : g7 ≠ g8 := fun h9 => hne (by rw [h9])
  have hg' : g8 ≠ g7 := fun h9 => hg h9.symm
  clear hne
  obtain ⟨xa, hxa⟩ : ∃ xa, x.1 = xa := ⟨_, rfl⟩
  obtain ⟨ya, hya⟩ : ∃ ya, y.1 = ya := ⟨_, rfl⟩
  rw [hxa, hya]
  have HX1 := hide hxa
  have HY1 := hide hya
  clear hxa hya
  have o7 := onlyW wx g7 (.int .i64 xa) (.slice A10 n10 c10)
  have p7 := h7.store xa A10 n10 c10
  have p8 := BoxW.grown (g' := g7) h8 o7 hg'
  have o8 := onlyW ((wx.setCell ⟨g7, 0, none⟩ (.int .i64 xa)).setCell ⟨g7, 1, none⟩ (.slice A10 n10 c10)) g8 (.int .i64 ya) (.slice A12 n12 c12)
  have t7 := BoxW.grown (g' := g8) p7 o8 hg
  have t8 := p8.store ya A12 n12 c12
  have t3 := BoxW.grown (g' := g8) (BoxW.grown (g' := g7) (Q3.out.later hx) o7 (by have := Q3.out.2; omega)) o8 (by have := Q3.out.2; omega)
  have cx := (h10.far o7 h7.noLimb).far o8 p8.noLimb
  have cy := (h12.far o7 h7.noLimb).far o8 p8.noLimb
  have hWs := hS.size
  have hB := belowW (g := g8) (belowW (g := g7) (below_step hx.out hS) (by omega) (.int .i64 xa) (.slice A10 n10 c10)) (by omega) (.int .i64 ya) (.slice A12 n12 c12)
  have HF := hide (And.intro t7 (And.intro t8 (And.intro t3 (And.intro cx (And.intro cy hB)))))
  clear t7 t8 t3 cx cy hB o7 p7 p8 o8 h7 h8 h10 h12 hr1 hr2 hS hx hWs HW HW0 Q1 Q2 Q3
  go_upto_region 2 with (fail)
  obtain ⟨t7, t8, t3, cx, cy, hB⟩ := HF.out
  clear HF
  obtain ⟨V, hV⟩ : ∃ V, V = (((wx.setCell ⟨g7, 0, none⟩ (.int .i64 xa)).setCell ⟨g7, 1, none⟩ (.slice A10 n10 c10)).setCell ⟨g8, 0, none⟩ (.int .i64 ya)).setCell ⟨g8, 1, none⟩ (.slice A12 n12 c12) := ⟨_, rfl⟩
  rw [← hV] at t7 t8 t3 cx cy hB
  try rw [← hV]
  clear hx7 hf7 hx8 hf8 hV
  have T7 := hide t7
  have T8 := hide t8
  have T3 := hide t3
  have hcx7 := t7.cells
  have hcx8 := t8.cells
  have hcg := t3.cells
  have hfg := t3.free
  have hz3 := t3.2
  clear t7 t8 t3 hg' hg
  have hl2 : ¬ xa < ya := by have := HX1.out; have := HY1.out; have := HL.out; omega
  have hl3 : ya < xa := by have := HX1.out; have := HY1.out; have := HL.out; omega
  go_wp2
  exact bodyPost_ret (v := .agg #[.int .i64 ya, .slice A12 n12 c12]) (by simp [results, Try.results78, go_sem, hcg]) rfl ⟨A12, n12, c12, by rw [HA.out, HY1.out], by rw [HA.out]; exact (cy.wide (by omega)).far (onlyW _ _ _ _) T3.out.noLimb, belowW hB (by omega) _ _⟩

set_option maxHeartbeats 8000000 in
theorem leasts_add3 (z : Int) (A : Option Addr) (n c : Nat) (x : LW) (K : Nat) (z2 : Int) (A2 : Option Addr) (n2 c2 : Nat) (y : LW) (L : Nat) (w : World) (h : RawW w z A n c x K) (h' : RawW w z2 A2 n2 c2 y L) (hK : K ≤ 900) (hL : L ≤ 900) (hlt : ¬ x.1 < y.1) (hgt : ¬ y.1 < x.1) (hinf : x.1 = infW) :
    Calls Try.prog 78 #[.agg #[], .agg #[.int .i64 z, .slice A n c], .agg #[.int .i64 z2, .slice A2 n2 c2]] w (RetLW (addW x y) (K + L + 1) w) := by
  have HA : Hid (addW x y = (infW, 0)) := by rw [Hid]; unfold addW; rw [if_neg hlt, if_neg hgt, if_pos hinf]
  have HL := hide (And.intro hlt hgt)
  have HIN := hide hinf
  clear hinf hlt hgt
  obtain ⟨W0, hW0, hS0, q1, q2⟩ := boxesW w (.cells #[] 54) z A n c z2 A2 n2 c2
  have hz0 : W0.heap.size = w.heap.size + 1 + 1 + 1 := by rw [hW0]; simp
  have q3 := BoxW.new W0 0 none 0 0
  rw [hz0] at q3
  have hba := below_alloc W0 (.cells #[.int .i64 0, .slice none 0 0] 51)
  have Q1 := hide (q1.below hba)
  have Q2 := hide (q2.below hba)
  have hS := below_step hba hS0
  have hr1 := h.below hS
  have hr2 := h'.below hS
  have HW0 := hide hW0
  obtain ⟨W, hW⟩ : ∃ W, W = W0.alloc (.cells #[.int .i64 0, .slice none 0 0] 51) := ⟨_, rfl⟩
  rw [← hW] at Q1 Q2 q3 hS hr1 hr2
  have Q3 := hide q3
  have HW := hide hW
  clear hW hW0 hba q1 q2 q3 h h' hS0 hz0
  go_enter Try.func78, Try.ntmps78
  go_wp2_with fail
  rw [← HW0.out, ← HW.out]
  refine wp_region_tab2 6 41 (fun i => i == 4 || i == 5) [IsV (.agg #[.int .i64 z, .slice A n c]), IsLW x K, IsV (.agg #[.int .i64 z2, .slice A2 n2 c2]), IsLW y L, IsBoxW W.heap.size, IsBoxW W.heap.size] (From W) (by kernel_rfl) (by kernel_rfl) (by kernel_rfl) rfl From.lasting' (From.drew (From.refl W)) ?_
  simp only [List.take_succ_cons, List.drop_succ_cons, List.take_zero, List.drop_zero]
  refine Tab2.cons IsV.lasting (fun h9 => absurd h9 (by decide)) (fun wx hx hd => ?_) (fun v9 => ?_)
  · skip
    clear hd
    intro KK hK
    replace hK := Shut.weak hK (by decide)
    have hcell := (Q1.out.later hx).cells
    go_simp
    exact hK.out _ _ rfl (Below.refl _ _)
  simp only [Act.put, List.setIfInBounds_toArray, List.set_cons_zero, List.set_cons_succ]
  refine Tab2.cons IsLW.lasting (fun h9 => absurd h9 (by decide)) (fun wx hx hd => ?_) (fun v10 => ?_)
  · skip
    have e9 : v9 = _ := (hd _ (.head _) (by kernel_rfl) : (IsV (.agg #[.int .i64 z, .slice A n c])) v9 wx)
    subst e9
    clear hd
    intro KK hK
    replace hK := Shut.weak hK (by decide)
    go_simp
    refine (least_any _ _ _ _ x K _ (hr1.below hx.out) (by omega)).mono ?_
    rintro e w' ⟨A', n', c', rfl, hc', hb'⟩
    exact hK.out _ _ ⟨A', n', c', rfl, hc'⟩ hb'
  simp only [Act.put, List.setIfInBounds_toArray, List.set_cons_zero, List.set_cons_succ]
  refine Tab2.cons IsV.lasting (fun h9 => absurd h9 (by decide)) (fun wx hx hd => ?_) (fun v11 => ?_)
  · skip
    clear hd
    intro KK hK
    replace hK := Shut.weak hK (by decide)
    have hcell := (Q2.out.later hx).cells
    go_simp
    exact hK.out _ _ rfl (Below.refl _ _)
  simp only [Act.put, List.setIfInBounds_toArray, List.set_cons_zero, List.set_cons_succ]
  refine Tab2.cons IsLW.lasting (fun h9 => absurd h9 (by decide)) (fun wx hx hd => ?_) (fun v12 => ?_)
  · skip
    have e11 : v11 = _ := (hd _ (.head _) (by kernel_rfl) : (IsV (.agg #[.int .i64 z2, .slice A2 n2 c2])) v11 wx)
    subst e11
    clear hd
    intro KK hK
    replace hK := Shut.weak hK (by decide)
    go_simp
    refine (least_any _ _ _ _ y L _ (hr2.below hx.out) (by omega)).mono ?_
    rintro e w' ⟨A', n', c', rfl, hc', hb'⟩
    exact hK.out _ _ ⟨A', n', c', rfl, hc'⟩ hb'
  simp only [Act.put, List.setIfInBounds_toArray, List.set_cons_zero, List.set_cons_succ]
  refine Tab2.cons IsBoxW.lasting (fun _ => IsBoxW.ptr) (fun wx hx hd => ?_) (fun v7 => ?_)
  · skip
    clear hd
    intro KK hK
    go_simp
    exact hK.out _ _ ⟨⟨_, hx.out.size, rfl, BoxW.new _ _ _ _ _⟩, fun _ => rfl⟩ (below_alloc _ _)
  simp only [Act.put, List.setIfInBounds_toArray, List.set_cons_zero, List.set_cons_succ]
  refine Tab2.cons IsBoxW.lasting (fun _ => IsBoxW.ptr) (fun wx hx hd => ?_) (fun v8 => ?_)
  · skip
    clear hd
    intro KK hK
    go_simp
    exact hK.out _ _ ⟨⟨_, hx.out.size, rfl, BoxW.new _ _ _ _ _⟩, fun _ => rfl⟩ (below_alloc _ _)
  simp only [Act.put, List.setIfInBounds_toArray, List.set_cons_zero, List.set_cons_succ]
  refine Tab2.nil fun wx hx hd hdif => ?_
  have hne : v7 ≠ v8 := hdif _ (.tail _ (.head _)) _ (.head _) rfl rfl (show (4 : Nat) ≠ 5 by decide)
  obtain ⟨A10, n10, c10, rfl, h10⟩ := (hd _ (.tail _ (.tail _ (.tail _ (.tail _ (.head _))))) : (IsLW x K) v10 wx)
  obtain ⟨A12, n12, c12, rfl, h12⟩ := (hd _ (.tail _ (.tail _ (.head _))) : (IsLW y L) v12 wx)
  obtain ⟨g7, j7, rfl, h7⟩ := (hd _ (.tail _ (.head _)) : (IsBoxW W.heap.size) v7 wx)
  obtain ⟨g8, j8, rfl, h8⟩ := (hd _ (.head _) : (IsBoxW W.heap.size) v8 wx)
  clear hd hdif
  have hx7 := h7.cells
  have hf7 := h7.free
  have hx8 := h8.cells
  have hf8 := h8.free
  have hg : g7 ≠ g8 := fun h9 => hne (by rw [h9])
  have hg' : g8 ≠ g7 := fun h9 => hg h9.symm
  clear hne
  obtain ⟨xa, hxa⟩ : ∃ xa, x.1 = xa := ⟨_, rfl⟩
  obtain ⟨ya, hya⟩ : ∃ ya, y.1 = ya := ⟨_, rfl⟩
  rw [hxa, hya]
  have HX1 := hide hxa
  have HY1 := hide hya
  clear hxa hya
  have o7 := onlyW wx g7 (.int .i64 xa) (.slice A10 n10 c10)
  have p7 := h7.store xa A10 n10 c10
  have p8 := BoxW.grown (g' := g7) h8 o7 hg'
  have o8 := onlyW ((wx.setCell ⟨g7, 0, none⟩ (.int .i64 xa)).setCell ⟨g7, 1, none⟩ (.slice A10 n10 c10)) g8 (.int .i64 ya) (.slice A12 n12 c12)
  have t7 := BoxW.grown (g' := g8) p7 o8 hg
  have t8 := p8.store ya A12 n12 c12
  have t3 := BoxW.grown (g' := g8) (BoxW.grown (g' := g7) (Q3.out.later hx) o7 (by have := Q3.out.2; omega)) o8 (by have := Q3.out.2; omega)
  have cx := (h10.far o7 h7.noLimb).far o8 p8.noLimb
  have cy := (h12.far o7 h7.noLimb).far o8 p8.noLimb
  have hWs := hS.size
  have hB := belowW (g := g8) (belowW (g := g7) (below_step hx.out hS) (by omega) (.int .i64 xa) (.slice A10 n10 c10)) (by omega) (.int .i64 ya) (.slice A12 n12 c12)
  have HF := hide (And.intro t7 (And.intro t8 (And.intro t3 (And.intro cx (And.intro cy hB)))))
  clear t7 t8 t3 cx cy hB o7 p7 p8 o8 h7 h8 h10 h12 hr1 hr2 hS hx hWs HW HW0 Q1 Q2 Q3
  go_upto_region 2 with (fail)
  obtain ⟨t7, t8, t3, cx, cy, hB⟩ := HF.out
  clear HF
  obtain ⟨V, hV⟩ : ∃ V, V = (((wx.setCell ⟨g7, 0, none⟩ (.int .i64 xa)).setCell ⟨g7, 1, none⟩ (.slice A10 n10 c10)).setCell ⟨g8, 0, none⟩ (.int .i64 ya)).setCell ⟨g8, 1, none⟩ (.slice A12 n12 c12) := ⟨_, rfl⟩
  rw [← hV] at t7 t8 t3 cx cy hB
  try rw [← hV]
  clear hx7 hf7 hx8 hf8 hV
  have T7 := hide t7
  have T8 := hide t8
  have T3 := hide t3
  have hcx7 := t7.cells
  have hcx8 := t8.cells
  have hcg := t3.cells
  have hfg := t3.free
  have hz3 := t3.2
  clear t7 t8 t3 hg' hg
  have hl2 : ¬ xa < ya := by have := HX1.out; have := HY1.out; have := HL.out; omega
  have hl3 : ¬ ya < xa := by have := HX1.out; have := HY1.out; have := HL.out; omega
  have hl4 : (xa == 4611686018427387904) = true := by have := HX1.out; have := HIN.out; have hi : infW = 4611686018427387904 := rfl; simp; omega
  go_wp2_with fail
  refine (never_any _ (K + L + 1)).mono ?_
  rintro e w9 ⟨A9, n9, c9, rfl, h9, hb9⟩
  have q9 := T3.out.below hb9
  clear hcg hfg hcx7 hcx8
  have hcg := q9.cells
  have hfg := q9.free
  go_wp2
  exact bodyPost_ret (v := .agg #[.int .i64 infW, .slice A9 n9 c9]) (by simp [results, Try.results78, go_sem, hcg]) rfl ⟨A9, n9, c9, by rw [HA.out], by rw [HA.out]; exact h9.far (onlyW _ _ _ _) q9.noLimb, belowW (below_step hb9 hB) (by omega) _ _⟩

set_option maxHeartbeats 8000000 in
theorem leasts_add4 (z : Int) (A : Option Addr) (n c : Nat) (x : LW) (K : Nat) (z2 : Int) (A2 : Option Addr) (n2 c2 : Nat) (y : LW) (L : Nat) (w : World) (h : RawW w z A n c x K) (h' : RawW w z2 A2 n2 c2 y L) (hK : K ≤ 900) (hL : L ≤ 900) (hlt : ¬ x.1 < y.1) (hgt : ¬ y.1 < x.1) (hinf : x.1 ≠ infW) :
    Calls Try.prog 78 #[.agg #[], .agg #[.int .i64 z, .slice A n c], .agg #[.int .i64 z2, .slice A2 n2 c2]] w (RetLW (addW x y) (K + L + 1) w) := by
  have HA : Hid (addW x y = (x.1, x.2 + y.2)) := by rw [Hid]; unfold addW; rw [if_neg hlt, if_neg hgt, if_neg hinf]
  have HL := hide (And.intro hlt hgt)
  have HIN := hide hinf
  clear hinf hlt hgt
  obtain ⟨W0, hW0, hS0, q1, q2⟩ := boxesW w (.cells #[] 54) z A n c z2 A2 n2 c2
  have hz0 : W0.heap.size = w.heap.size + 1 + 1 + 1 := by rw [hW0]; simp
  have q3 := BoxW.new W0 0 none 0 0
  rw [hz0] at q3
  have hba := below_alloc W0 (.cells #[.int .i64 0, .slice none 0 0] 51)
  have Q1 := hide (q1.below hba)
  have Q2 := hide (q2.below hba)
  have hS := below_step hba hS0
  have hr1 := h.below hS
  have hr2 := h'.below hS
  have HW0 := hide hW0
  obtain ⟨W, hW⟩ : ∃ W, W = W0.alloc (.cells #[.int .i64 0, .slice none 0 0] 51) := ⟨_, rfl⟩
  rw [← hW] at Q1 Q2 q3 hS hr1 hr2
  have Q3 := hide q3
  have HW := hide hW
  clear hW hW0 hba q1 q2 q3 h h' hS0 hz0
  go_enter Try.func78, Try.ntmps78
  go_wp2_with fail
  rw [← HW0.out, ← HW.out]
  refine wp_region_tab2 6 41 (fun i => i == 4 || i == 5) [IsV (.agg #[.int .i64 z, .slice A n c]), IsLW x K, IsV (.agg #[.int .i64 z2, .slice A2 n2 c2]), IsLW y L, IsBoxW W.heap.size, IsBoxW W.heap.size] (From W) (by kernel_rfl) (by kernel_rfl) (by kernel_rfl) rfl From.lasting' (From.drew (From.refl W)) ?_
  simp only [List.take_succ_cons, List.drop_succ_cons, List.take_zero, List.drop_zero]
  refine Tab2.cons IsV.lasting (fun h9 => absurd h9 (by decide)) (fun wx hx hd => ?_) (fun v9 => ?_)
  · skip
    clear hd
    intro KK hK
    replace hK := Shut.weak hK (by decide)
    have hcell := (Q1.out.later hx).cells
    go_simp
    exact hK.out _ _ rfl (Below.refl _ _)
  simp only [Act.put, List.setIfInBounds_toArray, List.set_cons_zero, List.set_cons_succ]
  refine Tab2.cons IsLW.lasting (fun h9 => absurd h9 (by decide)) (fun wx hx hd => ?_) (fun v10 => ?_)
  · skip
    have e9 : v9 = _ := (hd _ (.head _) (by kernel_rfl) : (IsV (.agg #[.int .i64 z, .slice A n c])) v9 wx)
    subst e9
    clear hd
    intro KK hK
    replace hK := Shut.weak hK (by decide)
    go_simp
    refine (least_any _ _ _ _ x K _ (hr1.below hx.out) (by omega)).mono ?_
    rintro e w' ⟨A', n', c', rfl, hc', hb'⟩
    exact hK.out _ _ ⟨A', n', c', rfl, hc'⟩ hb'
  simp only [Act.put, List.setIfInBounds_toArray, List.set_cons_zero, List.set_cons_succ]
  refine Tab2.cons IsV.lasting (fun h9 => absurd h9 (by decide)) (fun wx hx hd => ?_) (fun v11 => ?_)
  · skip
    clear hd
    intro KK hK
    replace hK := Shut.weak hK (by decide)
    have hcell := (Q2.out.later hx).cells
    go_simp
    exact hK.out _ _ rfl (Below.refl _ _)
  simp only [Act.put, List.setIfInBounds_toArray, List.set_cons_zero, List.set_cons_succ]
  refine Tab2.cons IsLW.lasting (fun h9 => absurd h9 (by decide)) (fun wx hx hd => ?_) (fun v12 => ?_)
  · skip
    have e11 : v11 = _ := (hd _ (.head _) (by kernel_rfl) : (IsV (.agg #[.int .i64 z2, .slice A2 n2 c2])) v11 wx)
    subst e11
    clear hd
    intro KK hK
    replace hK := Shut.weak hK (by decide)
    go_simp
    refine (least_any _ _ _ _ y L _ (hr2.below hx.out) (by omega)).mono ?_
    rintro e w' ⟨A', n', c', rfl, hc', hb'⟩
    exact hK.out _ _ ⟨A', n', c', rfl, hc'⟩ hb'
  simp only [Act.put, List.setIfInBounds_toArray, List.set_cons_zero, List.set_cons_succ]
  refine Tab2.cons IsBoxW.lasting (fun _ => IsBoxW.ptr) (fun wx hx hd => ?_) (fun v7 => ?_)
  · skip
    clear hd
    intro KK hK
    go_simp
    exact hK.out _ _ ⟨⟨_, hx.out.size, rfl, BoxW.new _ _ _ _ _⟩, fun _ => rfl⟩ (below_alloc _ _)
  simp only [Act.put, List.setIfInBounds_toArray, List.set_cons_zero, List.set_cons_succ]
  refine Tab2.cons IsBoxW.lasting (fun _ => IsBoxW.ptr) (fun wx hx hd => ?_) (fun v8 => ?_)
  · skip
    clear hd
    intro KK hK
    go_simp
    exact hK.out _ _ ⟨⟨_, hx.out.size, rfl, BoxW.new _ _ _ _ _⟩, fun _ => rfl⟩ (below_alloc _ _)
  simp only [Act.put, List.setIfInBounds_toArray, List.set_cons_zero, List.set_cons_succ]
  refine Tab2.nil fun wx hx hd hdif => ?_
  have hne : v7 ≠ v8 := hdif _ (.tail _ (.head _)) _ (.head _) rfl rfl (show (4 : Nat) ≠ 5 by decide)
  obtain ⟨A10, n10, c10, rfl, h10⟩ := (hd _ (.tail _ (.tail _ (.tail _ (.tail _ (.head _))))) : (IsLW x K) v10 wx)
  obtain ⟨A12, n12, c12, rfl, h12⟩ := (hd _ (.tail _ (.tail _ (.head _))) : (IsLW y L) v12 wx)
  obtain ⟨g7, j7, rfl, h7⟩ := (hd _ (.tail _ (.head _)) : (IsBoxW W.heap.size) v7 wx)
  obtain ⟨g8, j8, rfl, h8⟩ := (hd _ (.head _) : (IsBoxW W.heap.size) v8 wx)
  clear hd hdif
  have hx7 := h7.cells
  have hf7 := h7.free
  have hx8 := h8.cells
  have hf8 := h8.free
  have hg : g7 ≠ g8 := fun h9 => hne (by rw [h9])
  have hg' : g8 ≠ g7 := fun h9 => hg h9.symm
  clear hne
  obtain ⟨xa, hxa⟩ : ∃ xa, x.1 = xa := ⟨_, rfl⟩
  obtain ⟨ya, hya⟩ : ∃ ya, y.1 = ya := ⟨_, rfl⟩
  rw [hxa, hya]
  have HX1 := hide hxa
  have HY1 := hide hya
  clear hxa hya
  have o7 := onlyW wx g7 (.int .i64 xa) (.slice A10 n10 c10)
  have p7 := h7.store xa A10 n10 c10
  have p8 := BoxW.grown (g' := g7) h8 o7 hg'
  have o8 := onlyW ((wx.setCell ⟨g7, 0, none⟩ (.int .i64 xa)).setCell ⟨g7, 1, none⟩ (.slice A10 n10 c10)) g8 (.int .i64 ya) (.slice A12 n12 c12)
  have t7 := BoxW.grown (g' := g8) p7 o8 hg
  have t8 := p8.store ya A12 n12 c12
  have t3 := BoxW.grown (g' := g8) (BoxW.grown (g' := g7) (Q3.out.later hx) o7 (by have := Q3.out.2; omega)) o8 (by have := Q3.out.2; omega)
  have cx := (h10.far o7 h7.noLimb).far o8 p8.noLimb
  have cy := (h12.far o7 h7.noLimb).far o8 p8.noLimb
  have hWs := hS.size
  have hB := belowW (g := g8) (belowW (g := g7) (below_step hx.out hS) (by omega) (.int .i64 xa) (.slice A10 n10 c10)) (by omega) (.int .i64 ya) (.slice A12 n12 c12)
  have HF := hide (And.intro t7 (And.intro t8 (And.intro t3 (And.intro cx (And.intro cy hB)))))
  clear t7 t8 t3 cx cy hB o7 p7 p8 o8 h7 h8 h10 h12 hr1 hr2 hS hx hWs HW HW0 Q1 Q2 Q3
  go_upto_region 2 with (fail)
  obtain ⟨t7, t8, t3, cx, cy, hB⟩ := HF.out
  clear HF
  obtain ⟨V, hV⟩ : ∃ V, V = (((wx.setCell ⟨g7, 0, none⟩ (.int .i64 xa)).setCell ⟨g7, 1, none⟩ (.slice A10 n10 c10)).setCell ⟨g8, 0, none⟩ (.int .i64 ya)).setCell ⟨g8, 1, none⟩ (.slice A12 n12 c12) := ⟨_, rfl⟩
  rw [← hV] at t7 t8 t3 cx cy hB
  try rw [← hV]
  clear hx7 hf7 hx8 hf8 hV
  have T7 := hide t7
  have T8 := hide t8
  have T3 := hide t3
  have hcx7 := t7.cells
  have hcx8 := t8.cells
  have hcg := t3.cells
  have hfg := t3.free
  have hz3 := t3.2
  clear t7 t8 t3 hg' hg
  have hl2 : ¬ xa < ya := by have := HX1.out; have := HY1.out; have := HL.out; omega
  have hl3 : ¬ ya < xa := by have := HX1.out; have := HY1.out; have := HL.out; omega
  have hl4 : (xa == 4611686018427387904) = false := by have := HX1.out; have := HIN.out; have hi : infW = 4611686018427387904 := rfl; simp; omega
  go_wp2_with fail
  refine wp_region_tab 9 41 [IsV (.pointer (some ⟨g7, 0, none⟩)), IsV (.int .i64 xa), IsV (.pointer (some ⟨g7, 1, none⟩)), IsV (.slice A10 n10 c10), IsV (.pointer (some ⟨g8, 1, none⟩)), IsV (.slice A12 n12 c12), IsLNL (limbs x.2) (limbs y.2), IsLN (x.2 + y.2) (K + L + 1), IsL40 xa (x.2 + y.2) (K + L + 1)] (From V) (by kernel_rfl) (by kernel_rfl) (by kernel_rfl) rfl From.lasting' (From.drew (From.refl V)) ?_
  simp only [List.take_succ_cons, List.drop_succ_cons, List.take_zero, List.drop_zero]
  refine Tab.cons IsV.lasting (fun wx hx hd => ?_) (fun v32 => ?_)
  · skip
    clear hd
    intro KK hK
    go_simp
    exact hK.out _ _ rfl (Below.refl _ _)
  simp only [Act.put, List.setIfInBounds_toArray, List.set_cons_zero, List.set_cons_succ]
  refine Tab.cons IsV.lasting (fun wx hx hd => ?_) (fun v33 => ?_)
  · skip
    have e32 : v32 = _ := (hd _ (.head _) (by kernel_rfl) : (IsV (.pointer (some ⟨g7, 0, none⟩))) v32 wx)
    subst e32
    clear hd
    intro KK hK
    have hcell := (T7.out.later hx).cells
    go_simp
    exact hK.out _ _ rfl (Below.refl _ _)
  simp only [Act.put, List.setIfInBounds_toArray, List.set_cons_zero, List.set_cons_succ]
  refine Tab.cons IsV.lasting (fun wx hx hd => ?_) (fun v34 => ?_)
  · skip
    clear hd
    intro KK hK
    go_simp
    exact hK.out _ _ rfl (Below.refl _ _)
  simp only [Act.put, List.setIfInBounds_toArray, List.set_cons_zero, List.set_cons_succ]
  refine Tab.cons IsV.lasting (fun wx hx hd => ?_) (fun v35 => ?_)
  · skip
    have e34 : v34 = _ := (hd _ (.head _) (by kernel_rfl) : (IsV (.pointer (some ⟨g7, 1, none⟩))) v34 wx)
    subst e34
    clear hd
    intro KK hK
    have hcell := (T7.out.later hx).cells
    go_simp
    exact hK.out _ _ rfl (Below.refl _ _)
  simp only [Act.put, List.setIfInBounds_toArray, List.set_cons_zero, List.set_cons_succ]
  refine Tab.cons IsV.lasting (fun wx hx hd => ?_) (fun v36 => ?_)
  · skip
    clear hd
    intro KK hK
    go_simp
    exact hK.out _ _ rfl (Below.refl _ _)
  simp only [Act.put, List.setIfInBounds_toArray, List.set_cons_zero, List.set_cons_succ]
  refine Tab.cons IsV.lasting (fun wx hx hd => ?_) (fun v37 => ?_)
  · skip
    have e36 : v36 = _ := (hd _ (.head _) (by kernel_rfl) : (IsV (.pointer (some ⟨g8, 1, none⟩))) v36 wx)
    subst e36
    clear hd
    intro KK hK
    have hcell := (T8.out.later hx).cells
    go_simp
    exact hK.out _ _ rfl (Below.refl _ _)
  simp only [Act.put, List.setIfInBounds_toArray, List.set_cons_zero, List.set_cons_succ]
  refine Tab.cons IsLNL.lasting (fun wx hx hd => ?_) (fun v38 => ?_)
  · skip
    have e35 : v35 = _ := (hd _ (.tail _ (.tail _ (.head _))) (by kernel_rfl) : (IsV (.slice A10 n10 c10)) v35 wx)
    subst e35
    have e37 : v37 = _ := (hd _ (.head _) (by kernel_rfl) : (IsV (.slice A12 n12 c12)) v37 wx)
    subst e37
    clear hd
    intro KK hK
    go_simp
    exact hK.out _ _ ⟨_, rfl, rdl_two2 rfl (cx.num.below hx.out) (cy.num.below hx.out)⟩ (below_alloc _ _)
  simp only [Act.put, List.setIfInBounds_toArray, List.set_cons_zero, List.set_cons_succ]
  refine Tab.cons IsLN.lasting (fun wx hx hd => ?_) (fun v39 => ?_)
  · skip
    obtain ⟨g38, rfl, h38⟩ := (hd _ (.head _) (by kernel_rfl) : (IsLNL (limbs x.2) (limbs y.2)) v38 wx)
    clear hd
    intro KK hK
    go_simp
    refine (laddL (a := K + L) h38 (by rw [cx.num.len]; have := cx.hn; omega) (by rw [cy.num.len]; have := cy.hn; omega) (by omega)).mono ?_
    rintro e w' ⟨A', n', c', rfl, h', hb', hn'⟩
    simp only [val_limbs] at h'
    exact hK.out _ _ ⟨A', n', c', rfl, h', hn'⟩ hb'
  simp only [Act.put, List.setIfInBounds_toArray, List.set_cons_zero, List.set_cons_succ]
  refine Tab.cons IsL40.lasting (fun wx hx hd => ?_) (fun v40 => ?_)
  · skip
    have e33 : v33 = _ := (hd _ (.tail _ (.tail _ (.tail _ (.tail _ (.tail _ (.tail _ (.head _))))))) (by kernel_rfl) : (IsV (.int .i64 xa)) v33 wx)
    subst e33
    obtain ⟨A39, n39, c39, rfl, h39, k39⟩ := (hd _ (.head _) (by kernel_rfl) : (IsLN (x.2 + y.2) (K + L + 1)) v39 wx)
    clear hd
    intro KK hK
    go_simp
    exact hK.out _ _ ⟨A39, n39, c39, rfl, h39, k39⟩ (Below.refl _ _)
  simp only [Act.put, List.setIfInBounds_toArray, List.set_cons_zero, List.set_cons_succ]
  refine Tab.nil fun wx hx hd => ?_
  obtain ⟨A40, n40, c40, rfl, h40, k40⟩ := (hd _ (.head _) : (IsL40 xa (x.2 + y.2) (K + L + 1)) v40 wx)
  clear hd
  have q9 := T3.out.later hx
  clear hcg hfg
  have hcg := q9.cells
  have hfg := q9.free
  go_wp2
  exact bodyPost_ret (v := .agg #[.int .i64 xa, .slice A40 n40 c40]) (by simp [results, Try.results78, go_sem, hcg]) rfl ⟨A40, n40, c40, by rw [HA.out, HX1.out], ⟨by rw [HA.out]; exact Rd.farW h40 (onlyW _ _ _ _) q9.noLimb, k40, addW_can cx.can cy.can⟩, belowW (below_step hx.out hB) (by omega) _ _⟩

set_option maxHeartbeats 8000000 in
theorem leasts_add (z : Int) (A : Option Addr) (n c : Nat) (x : LW) (K : Nat) (z2 : Int) (A2 : Option Addr) (n2 c2 : Nat) (y : LW) (L : Nat) (w : World) (h : RawW w z A n c x K) (h' : RawW w z2 A2 n2 c2 y L) (hK : K ≤ 900) (hL : L ≤ 900) :
    Calls Try.prog 78 #[.agg #[], .agg #[.int .i64 z, .slice A n c], .agg #[.int .i64 z2, .slice A2 n2 c2]] w (RetLW (addW x y) (K + L + 1) w) := by
  by_cases h1 : x.1 < y.1
  · exact leasts_add1 z A n c x K z2 A2 n2 c2 y L w h h' hK hL h1
  · by_cases h2 : y.1 < x.1
    · exact leasts_add2 z A n c x K z2 A2 n2 c2 y L w h h' hK hL h1 h2
    · by_cases h3 : x.1 = infW
      · exact leasts_add3 z A n c x K z2 A2 n2 c2 y L w h h' hK hL h1 h2 h3
      · exact leasts_add4 z A n c x K z2 A2 n2 c2 y L w h h' hK hL h1 h2 h3

set_option maxHeartbeats 8000000 in
theorem leasts_mul1 (z : Int) (A : Option Addr) (n c : Nat) (x : LW) (K : Nat) (z2 : Int) (A2 : Option Addr) (n2 c2 : Nat) (y : LW) (L : Nat) (w : World) (h : RawW w z A n c x K) (h' : RawW w z2 A2 n2 c2 y L) (hK : K ≤ 900) (hL : L ≤ 900) (hge : infW ≤ x.1 + y.1) :
    Calls Try.prog 79 #[.agg #[], .agg #[.int .i64 z, .slice A n c], .agg #[.int .i64 z2, .slice A2 n2 c2]] w (RetLW (mulW x y) (K + L) w) := by
  have HA : Hid (mulW x y = (infW, 0)) := if_pos hge
  have HL := hide hge
  clear hge
  obtain ⟨W0, hW0, hS0, q1, q2⟩ := boxesW w (.cells #[] 54) z A n c z2 A2 n2 c2
  have hz0 : W0.heap.size = w.heap.size + 1 + 1 + 1 := by rw [hW0]; simp
  have q3 := BoxW.new W0 0 none 0 0
  rw [hz0] at q3
  have hba := below_alloc W0 (.cells #[.int .i64 0, .slice none 0 0] 51)
  have Q1 := hide (q1.below hba)
  have Q2 := hide (q2.below hba)
  have hS := below_step hba hS0
  have hr1 := h.below hS
  have hr2 := h'.below hS
  have HW0 := hide hW0
  obtain ⟨W, hW⟩ : ∃ W, W = W0.alloc (.cells #[.int .i64 0, .slice none 0 0] 51) := ⟨_, rfl⟩
  rw [← hW] at Q1 Q2 q3 hS hr1 hr2
  have Q3 := hide q3
  have HW := hide hW
  clear hW hW0 hba q1 q2 q3 h h' hS0 hz0
  go_enter Try.func79, Try.ntmps79
  go_wp2_with fail
  rw [← HW0.out, ← HW.out]
  refine wp_region_tab2 6 30 (fun i => i == 4 || i == 5) [IsV (.agg #[.int .i64 z, .slice A n c]), IsLW x K, IsV (.agg #[.int .i64 z2, .slice A2 n2 c2]), IsLW y L, IsBoxW W.heap.size, IsBoxW W.heap.size] (From W) (by kernel_rfl) (by kernel_rfl) (by kernel_rfl) rfl From.lasting' (From.drew (From.refl W)) ?_
  simp only [List.take_succ_cons, List.drop_succ_cons, List.take_zero, List.drop_zero]
  refine Tab2.cons IsV.lasting (fun h9 => absurd h9 (by decide)) (fun wx hx hd => ?_) (fun v10 => ?_)
  · skip
    clear hd
    intro KK hK
    replace hK := Shut.weak hK (by decide)
    have hcell := (Q1.out.later hx).cells
    go_simp
    exact hK.out _ _ rfl (Below.refl _ _)
  simp only [Act.put, List.setIfInBounds_toArray, List.set_cons_zero, List.set_cons_succ]
  refine Tab2.cons IsLW.lasting (fun h9 => absurd h9 (by decide)) (fun wx hx hd => ?_) (fun v11 => ?_)
  · skip
    have e10 : v10 = _ := (hd _ (.head _) (by kernel_rfl) : (IsV (.agg #[.int .i64 z, .slice A n c])) v10 wx)
    subst e10
    clear hd
    intro KK hK
    replace hK := Shut.weak hK (by decide)
    go_simp
    refine (least_any _ _ _ _ x K _ (hr1.below hx.out) (by omega)).mono ?_
    rintro e w' ⟨A', n', c', rfl, hc', hb'⟩
    exact hK.out _ _ ⟨A', n', c', rfl, hc'⟩ hb'
  simp only [Act.put, List.setIfInBounds_toArray, List.set_cons_zero, List.set_cons_succ]
  refine Tab2.cons IsV.lasting (fun h9 => absurd h9 (by decide)) (fun wx hx hd => ?_) (fun v12 => ?_)
  · skip
    clear hd
    intro KK hK
    replace hK := Shut.weak hK (by decide)
    have hcell := (Q2.out.later hx).cells
    go_simp
    exact hK.out _ _ rfl (Below.refl _ _)
  simp only [Act.put, List.setIfInBounds_toArray, List.set_cons_zero, List.set_cons_succ]
  refine Tab2.cons IsLW.lasting (fun h9 => absurd h9 (by decide)) (fun wx hx hd => ?_) (fun v13 => ?_)
  · skip
    have e12 : v12 = _ := (hd _ (.head _) (by kernel_rfl) : (IsV (.agg #[.int .i64 z2, .slice A2 n2 c2])) v12 wx)
    subst e12
    clear hd
    intro KK hK
    replace hK := Shut.weak hK (by decide)
    go_simp
    refine (least_any _ _ _ _ y L _ (hr2.below hx.out) (by omega)).mono ?_
    rintro e w' ⟨A', n', c', rfl, hc', hb'⟩
    exact hK.out _ _ ⟨A', n', c', rfl, hc'⟩ hb'
  simp only [Act.put, List.setIfInBounds_toArray, List.set_cons_zero, List.set_cons_succ]
  refine Tab2.cons IsBoxW.lasting (fun _ => IsBoxW.ptr) (fun wx hx hd => ?_) (fun v7 => ?_)
  · skip
    clear hd
    intro KK hK
    go_simp
    exact hK.out _ _ ⟨⟨_, hx.out.size, rfl, BoxW.new _ _ _ _ _⟩, fun _ => rfl⟩ (below_alloc _ _)
  simp only [Act.put, List.setIfInBounds_toArray, List.set_cons_zero, List.set_cons_succ]
  refine Tab2.cons IsBoxW.lasting (fun _ => IsBoxW.ptr) (fun wx hx hd => ?_) (fun v8 => ?_)
  · skip
    clear hd
    intro KK hK
    go_simp
    exact hK.out _ _ ⟨⟨_, hx.out.size, rfl, BoxW.new _ _ _ _ _⟩, fun _ => rfl⟩ (below_alloc _ _)
  simp only [Act.put, List.setIfInBounds_toArray, List.set_cons_zero, List.set_cons_succ]
  refine Tab2.nil fun wx hx hd hdif => ?_
  have hne : v7 ≠ v8 := hdif _ (.tail _ (.head _)) _ (.head _) rfl rfl (show (4 : Nat) ≠ 5 by decide)
  obtain ⟨A11, n11, c11, rfl, h11⟩ := (hd _ (.tail _ (.tail _ (.tail _ (.tail _ (.head _))))) : (IsLW x K) v11 wx)
  obtain ⟨A13, n13, c13, rfl, h13⟩ := (hd _ (.tail _ (.tail _ (.head _))) : (IsLW y L) v13 wx)
  obtain ⟨g7, j7, rfl, h7⟩ := (hd _ (.tail _ (.head _)) : (IsBoxW W.heap.size) v7 wx)
  obtain ⟨g8, j8, rfl, h8⟩ := (hd _ (.head _) : (IsBoxW W.heap.size) v8 wx)
  clear hd hdif
  have hx7 := h7.cells
  have hf7 := h7.free
  have hx8 := h8.cells
  have hf8 := h8.free
  have hg : g7 ≠ g8 := fun h9 => hne (by rw [h9])
  have hg' : g8 ≠ g7 := fun h9 => hg h9.symm
  clear hne
  obtain ⟨xa, hxa⟩ : ∃ xa, x.1 = xa := ⟨_, rfl⟩
  obtain ⟨ya, hya⟩ : ∃ ya, y.1 = ya := ⟨_, rfl⟩
  rw [hxa, hya]
  have HX1 := hide hxa
  have HY1 := hide hya
  clear hxa hya
  have o7 := onlyW wx g7 (.int .i64 xa) (.slice A11 n11 c11)
  have p7 := h7.store xa A11 n11 c11
  have p8 := BoxW.grown (g' := g7) h8 o7 hg'
  have o8 := onlyW ((wx.setCell ⟨g7, 0, none⟩ (.int .i64 xa)).setCell ⟨g7, 1, none⟩ (.slice A11 n11 c11)) g8 (.int .i64 ya) (.slice A13 n13 c13)
  have t7 := BoxW.grown (g' := g8) p7 o8 hg
  have t8 := p8.store ya A13 n13 c13
  have t3 := BoxW.grown (g' := g8) (BoxW.grown (g' := g7) (Q3.out.later hx) o7 (by have := Q3.out.2; omega)) o8 (by have := Q3.out.2; omega)
  have cx := (h11.far o7 h7.noLimb).far o8 p8.noLimb
  have cy := (h13.far o7 h7.noLimb).far o8 p8.noLimb
  have hWs := hS.size
  have hB := belowW (g := g8) (belowW (g := g7) (below_step hx.out hS) (by omega) (.int .i64 xa) (.slice A11 n11 c11)) (by omega) (.int .i64 ya) (.slice A13 n13 c13)
  have HF := hide (And.intro t7 (And.intro t8 (And.intro t3 (And.intro cx (And.intro cy hB)))))
  clear t7 t8 t3 cx cy hB o7 p7 p8 o8 h7 h8 h11 h13 hr1 hr2 hS hx hWs HW HW0 Q1 Q2 Q3
  go_upto_region 2 with (fail)
  obtain ⟨t7, t8, t3, cx, cy, hB⟩ := HF.out
  clear HF
  obtain ⟨V, hV⟩ : ∃ V, V = (((wx.setCell ⟨g7, 0, none⟩ (.int .i64 xa)).setCell ⟨g7, 1, none⟩ (.slice A11 n11 c11)).setCell ⟨g8, 0, none⟩ (.int .i64 ya)).setCell ⟨g8, 1, none⟩ (.slice A13 n13 c13) := ⟨_, rfl⟩
  rw [← hV] at t7 t8 t3 cx cy hB
  try rw [← hV]
  clear hx7 hf7 hx8 hf8 hV
  have T7 := hide t7
  have T8 := hide t8
  have T3 := hide t3
  have hcx7 := t7.cells
  have hcx8 := t8.cells
  have hcg := t3.cells
  have hfg := t3.free
  have hz3 := t3.2
  clear t7 t8 t3 hg' hg
  have hxr : 0 ≤ xa ∧ xa ≤ 4611686018427387904 := by have := HX1.out; have h5 := cx.can; unfold CanW at h5; have hi : infW = 4611686018427387904 := rfl; omega
  have hyr : 0 ≤ ya ∧ ya ≤ 4611686018427387904 := by have := HY1.out; have h5 := cy.can; unfold CanW at h5; have hi : infW = 4611686018427387904 := rfl; omega
  go_wp2_with fail
  refine (capped_any xa ya _ hxr hyr).mono ?_
  rintro e w9 ⟨rfl, hb9⟩
  have t7 := T7.out.below hb9
  have t8 := T8.out.below hb9
  have t3 := T3.out.below hb9
  have ux := cx.below hb9
  have uy := cy.below hb9
  have uB := below_step hb9 hB
  clear hcx7 hcx8 hcg hfg T7 T8 T3 cx cy hB hb9
  have cx := ux
  have cy := uy
  have hB := uB
  clear ux uy uB
  have hcx7 := t7.cells
  have hcx8 := t8.cells
  have hcg := t3.cells
  have hfg := t3.free
  have T7 := hide t7
  have T8 := hide t8
  have T3 := hide t3
  clear t7 t8 t3
  have hm : min 4611686018427387904 (xa + ya) = 4611686018427387904 := by have := HX1.out; have := HY1.out; have := HL.out; have hi : infW = 4611686018427387904 := rfl; omega
  rw [hm]
  go_wp2_with fail
  refine (never_any _ (K + L)).mono ?_
  rintro e w8 ⟨A9, n9, c9, rfl, h9, hb9⟩
  have q9 := T3.out.below hb9
  clear hcg hfg hcx7 hcx8
  have hcg := q9.cells
  have hfg := q9.free
  go_wp2
  exact bodyPost_ret (v := .agg #[.int .i64 infW, .slice A9 n9 c9]) (by simp [results, Try.results79, go_sem, hcg]) rfl ⟨A9, n9, c9, by rw [HA.out], by rw [HA.out]; exact h9.far (onlyW _ _ _ _) q9.noLimb, belowW (below_step hb9 hB) (by omega) _ _⟩

set_option maxHeartbeats 8000000 in
theorem leasts_mul2 (z : Int) (A : Option Addr) (n c : Nat) (x : LW) (K : Nat) (z2 : Int) (A2 : Option Addr) (n2 c2 : Nat) (y : LW) (L : Nat) (w : World) (h : RawW w z A n c x K) (h' : RawW w z2 A2 n2 c2 y L) (hK : K ≤ 900) (hL : L ≤ 900) (hge : ¬ infW ≤ x.1 + y.1) :
    Calls Try.prog 79 #[.agg #[], .agg #[.int .i64 z, .slice A n c], .agg #[.int .i64 z2, .slice A2 n2 c2]] w (RetLW (mulW x y) (K + L) w) := by
  have HA : Hid (mulW x y = (x.1 + y.1, x.2 * y.2)) := if_neg hge
  have HL := hide hge
  clear hge
  obtain ⟨W0, hW0, hS0, q1, q2⟩ := boxesW w (.cells #[] 54) z A n c z2 A2 n2 c2
  have hz0 : W0.heap.size = w.heap.size + 1 + 1 + 1 := by rw [hW0]; simp
  have q3 := BoxW.new W0 0 none 0 0
  rw [hz0] at q3
  have hba := below_alloc W0 (.cells #[.int .i64 0, .slice none 0 0] 51)
  have Q1 := hide (q1.below hba)
  have Q2 := hide (q2.below hba)
  have hS := below_step hba hS0
  have hr1 := h.below hS
  have hr2 := h'.below hS
  have HW0 := hide hW0
  obtain ⟨W, hW⟩ : ∃ W, W = W0.alloc (.cells #[.int .i64 0, .slice none 0 0] 51) := ⟨_, rfl⟩
  rw [← hW] at Q1 Q2 q3 hS hr1 hr2
  have Q3 := hide q3
  have HW := hide hW
  clear hW hW0 hba q1 q2 q3 h h' hS0 hz0
  go_enter Try.func79, Try.ntmps79
  go_wp2_with fail
  rw [← HW0.out, ← HW.out]
  refine wp_region_tab2 6 30 (fun i => i == 4 || i == 5) [IsV (.agg #[.int .i64 z, .slice A n c]), IsLW x K, IsV (.agg #[.int .i64 z2, .slice A2 n2 c2]), IsLW y L, IsBoxW W.heap.size, IsBoxW W.heap.size] (From W) (by kernel_rfl) (by kernel_rfl) (by kernel_rfl) rfl From.lasting' (From.drew (From.refl W)) ?_
  simp only [List.take_succ_cons, List.drop_succ_cons, List.take_zero, List.drop_zero]
  refine Tab2.cons IsV.lasting (fun h9 => absurd h9 (by decide)) (fun wx hx hd => ?_) (fun v10 => ?_)
  · skip
    clear hd
    intro KK hK
    replace hK := Shut.weak hK (by decide)
    have hcell := (Q1.out.later hx).cells
    go_simp
    exact hK.out _ _ rfl (Below.refl _ _)
  simp only [Act.put, List.setIfInBounds_toArray, List.set_cons_zero, List.set_cons_succ]
  refine Tab2.cons IsLW.lasting (fun h9 => absurd h9 (by decide)) (fun wx hx hd => ?_) (fun v11 => ?_)
  · skip
    have e10 : v10 = _ := (hd _ (.head _) (by kernel_rfl) : (IsV (.agg #[.int .i64 z, .slice A n c])) v10 wx)
    subst e10
    clear hd
    intro KK hK
    replace hK := Shut.weak hK (by decide)
    go_simp
    refine (least_any _ _ _ _ x K _ (hr1.below hx.out) (by omega)).mono ?_
    rintro e w' ⟨A', n', c', rfl, hc', hb'⟩
    exact hK.out _ _ ⟨A', n', c', rfl, hc'⟩ hb'
  simp only [Act.put, List.setIfInBounds_toArray, List.set_cons_zero, List.set_cons_succ]
  refine Tab2.cons IsV.lasting (fun h9 => absurd h9 (by decide)) (fun wx hx hd => ?_) (fun v12 => ?_)
  · skip
    clear hd
    intro KK hK
    replace hK := Shut.weak hK (by decide)
    have hcell := (Q2.out.later hx).cells
    go_simp
    exact hK.out _ _ rfl (Below.refl _ _)
  simp only [Act.put, List.setIfInBounds_toArray, List.set_cons_zero, List.set_cons_succ]
  refine Tab2.cons IsLW.lasting (fun h9 => absurd h9 (by decide)) (fun wx hx hd => ?_) (fun v13 => ?_)
  · skip
    have e12 : v12 = _ := (hd _ (.head _) (by kernel_rfl) : (IsV (.agg #[.int .i64 z2, .slice A2 n2 c2])) v12 wx)
    subst e12
    clear hd
    intro KK hK
    replace hK := Shut.weak hK (by decide)
    go_simp
    refine (least_any _ _ _ _ y L _ (hr2.below hx.out) (by omega)).mono ?_
    rintro e w' ⟨A', n', c', rfl, hc', hb'⟩
    exact hK.out _ _ ⟨A', n', c', rfl, hc'⟩ hb'
  simp only [Act.put, List.setIfInBounds_toArray, List.set_cons_zero, List.set_cons_succ]
  refine Tab2.cons IsBoxW.lasting (fun _ => IsBoxW.ptr) (fun wx hx hd => ?_) (fun v7 => ?_)
  · skip
    clear hd
    intro KK hK
    go_simp
    exact hK.out _ _ ⟨⟨_, hx.out.size, rfl, BoxW.new _ _ _ _ _⟩, fun _ => rfl⟩ (below_alloc _ _)
  simp only [Act.put, List.setIfInBounds_toArray, List.set_cons_zero, List.set_cons_succ]
  refine Tab2.cons IsBoxW.lasting (fun _ => IsBoxW.ptr) (fun wx hx hd => ?_) (fun v8 => ?_)
  · skip
    clear hd
    intro KK hK
    go_simp
    exact hK.out _ _ ⟨⟨_, hx.out.size, rfl, BoxW.new _ _ _ _ _⟩, fun _ => rfl⟩ (below_alloc _ _)
  simp only [Act.put, List.setIfInBounds_toArray, List.set_cons_zero, List.set_cons_succ]
  refine Tab2.nil fun wx hx hd hdif => ?_
  have hne : v7 ≠ v8 := hdif _ (.tail _ (.head _)) _ (.head _) rfl rfl (show (4 : Nat) ≠ 5 by decide)
  obtain ⟨A11, n11, c11, rfl, h11⟩ := (hd _ (.tail _ (.tail _ (.tail _ (.tail _ (.head _))))) : (IsLW x K) v11 wx)
  obtain ⟨A13, n13, c13, rfl, h13⟩ := (hd _ (.tail _ (.tail _ (.head _))) : (IsLW y L) v13 wx)
  obtain ⟨g7, j7, rfl, h7⟩ := (hd _ (.tail _ (.head _)) : (IsBoxW W.heap.size) v7 wx)
  obtain ⟨g8, j8, rfl, h8⟩ := (hd _ (.head _) : (IsBoxW W.heap.size) v8 wx)
  clear hd hdif
  have hx7 := h7.cells
  have hf7 := h7.free
  have hx8 := h8.cells
  have hf8 := h8.free
  have hg : g7 ≠ g8 := fun h9 => hne (by rw [h9])
  have hg' : g8 ≠ g7 := fun h9 => hg h9.symm
  clear hne
  obtain ⟨xa, hxa⟩ : ∃ xa, x.1 = xa := ⟨_, rfl⟩
  obtain ⟨ya, hya⟩ : ∃ ya, y.1 = ya := ⟨_, rfl⟩
  rw [hxa, hya]
  have HX1 := hide hxa
  have HY1 := hide hya
  clear hxa hya
  have o7 := onlyW wx g7 (.int .i64 xa) (.slice A11 n11 c11)
  have p7 := h7.store xa A11 n11 c11
  have p8 := BoxW.grown (g' := g7) h8 o7 hg'
  have o8 := onlyW ((wx.setCell ⟨g7, 0, none⟩ (.int .i64 xa)).setCell ⟨g7, 1, none⟩ (.slice A11 n11 c11)) g8 (.int .i64 ya) (.slice A13 n13 c13)
  have t7 := BoxW.grown (g' := g8) p7 o8 hg
  have t8 := p8.store ya A13 n13 c13
  have t3 := BoxW.grown (g' := g8) (BoxW.grown (g' := g7) (Q3.out.later hx) o7 (by have := Q3.out.2; omega)) o8 (by have := Q3.out.2; omega)
  have cx := (h11.far o7 h7.noLimb).far o8 p8.noLimb
  have cy := (h13.far o7 h7.noLimb).far o8 p8.noLimb
  have hWs := hS.size
  have hB := belowW (g := g8) (belowW (g := g7) (below_step hx.out hS) (by omega) (.int .i64 xa) (.slice A11 n11 c11)) (by omega) (.int .i64 ya) (.slice A13 n13 c13)
  have HF := hide (And.intro t7 (And.intro t8 (And.intro t3 (And.intro cx (And.intro cy hB)))))
  clear t7 t8 t3 cx cy hB o7 p7 p8 o8 h7 h8 h11 h13 hr1 hr2 hS hx hWs HW HW0 Q1 Q2 Q3
  go_upto_region 2 with (fail)
  obtain ⟨t7, t8, t3, cx, cy, hB⟩ := HF.out
  clear HF
  obtain ⟨V, hV⟩ : ∃ V, V = (((wx.setCell ⟨g7, 0, none⟩ (.int .i64 xa)).setCell ⟨g7, 1, none⟩ (.slice A11 n11 c11)).setCell ⟨g8, 0, none⟩ (.int .i64 ya)).setCell ⟨g8, 1, none⟩ (.slice A13 n13 c13) := ⟨_, rfl⟩
  rw [← hV] at t7 t8 t3 cx cy hB
  try rw [← hV]
  clear hx7 hf7 hx8 hf8 hV
  have T7 := hide t7
  have T8 := hide t8
  have T3 := hide t3
  have hcx7 := t7.cells
  have hcx8 := t8.cells
  have hcg := t3.cells
  have hfg := t3.free
  have hz3 := t3.2
  clear t7 t8 t3 hg' hg
  have hxr : 0 ≤ xa ∧ xa ≤ 4611686018427387904 := by have := HX1.out; have h5 := cx.can; unfold CanW at h5; have hi : infW = 4611686018427387904 := rfl; omega
  have hyr : 0 ≤ ya ∧ ya ≤ 4611686018427387904 := by have := HY1.out; have h5 := cy.can; unfold CanW at h5; have hi : infW = 4611686018427387904 := rfl; omega
  go_wp2_with fail
  refine (capped_any xa ya _ hxr hyr).mono ?_
  rintro e w9 ⟨rfl, hb9⟩
  have t7 := T7.out.below hb9
  have t8 := T8.out.below hb9
  have t3 := T3.out.below hb9
  have ux := cx.below hb9
  have uy := cy.below hb9
  have uB := below_step hb9 hB
  clear hcx7 hcx8 hcg hfg T7 T8 T3 cx cy hB hb9
  have cx := ux
  have cy := uy
  have hB := uB
  clear ux uy uB
  have hcx7 := t7.cells
  have hcx8 := t8.cells
  have hcg := t3.cells
  have hfg := t3.free
  have T7 := hide t7
  have T8 := hide t8
  have T3 := hide t3
  clear t7 t8 t3
  obtain ⟨mm, hmm⟩ : ∃ mm, mm = xa + ya := ⟨_, rfl⟩
  have hm : min 4611686018427387904 (xa + ya) = mm := by have := HX1.out; have := HY1.out; have := HL.out; have hi : infW = 4611686018427387904 := rfl; omega
  rw [hm]
  clear hm
  have HM := hide hmm
  clear hmm
  have hl4 : (mm == 4611686018427387904) = false := by have := HX1.out; have := HY1.out; have := HL.out; have := HM.out; have hi : infW = 4611686018427387904 := rfl; simp; omega
  go_wp2_with fail
  have hb0 := below_alloc w9 (.cells #[.slice A11 n11 c11, .slice A13 n13 c13] 37)
  refine (lmulL (a := K) (b := L) (rdl_two2 rfl cx.num cy.num) (by rw [cx.num.len]; exact cx.hn) (by rw [cy.num.len]; exact cy.hn) (by omega) (by omega)).mono ?_
  rintro e w8 ⟨A29, n29, c29, rfl, h29, hb9, k29⟩
  simp only [val_limbs] at h29
  have q9 := (T3.out.below hb0).below hb9
  have hb8 := below_step hb9 (below_step hb0 hB)
  clear hcg hfg hcx7 hcx8
  have hcg := q9.cells
  have hfg := q9.free
  go_wp2
  exact bodyPost_ret (v := .agg #[.int .i64 mm, .slice A29 n29 c29]) (by simp [results, Try.results79, go_sem, hcg]) rfl ⟨A29, n29, c29, by rw [HA.out, HX1.out, HY1.out, HM.out], ⟨by rw [HA.out]; exact Rd.farW h29 (onlyW _ _ _ _) q9.noLimb, k29, mulW_can cx.can cy.can⟩, belowW hb8 (by omega) _ _⟩

set_option maxHeartbeats 8000000 in
theorem leasts_mul (z : Int) (A : Option Addr) (n c : Nat) (x : LW) (K : Nat) (z2 : Int) (A2 : Option Addr) (n2 c2 : Nat) (y : LW) (L : Nat) (w : World) (h : RawW w z A n c x K) (h' : RawW w z2 A2 n2 c2 y L) (hK : K ≤ 900) (hL : L ≤ 900) :
    Calls Try.prog 79 #[.agg #[], .agg #[.int .i64 z, .slice A n c], .agg #[.int .i64 z2, .slice A2 n2 c2]] w (RetLW (mulW x y) (K + L) w) := by
  by_cases h1 : infW ≤ x.1 + y.1
  · exact leasts_mul1 z A n c x K z2 A2 n2 c2 y L w h h' hK hL h1
  · exact leasts_mul2 z A n c x K z2 A2 n2 c2 y L w h h' hK hL h1

theorem same_ne {x y : LW} (h : x.1 ≠ y.1) : decide (x = y) = false := decide_eq_false fun e => h (by rw [e])
theorem same_eq {x y : LW} (h : x.1 = y.1) : decide (limbs x.2 = limbs y.2) = decide (x = y) := by
  refine decide_eq_decide.mpr ⟨fun e => Prod.ext h ?_, fun e => by rw [e]⟩
  have := congrArg val e
  rwa [val_limbs, val_limbs] at this

end Go.Proofs.Ytjadgomakoaibaa
