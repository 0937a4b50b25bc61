/- Part of WholeTraces. -/
import Derived.Deep.AppendLies
import Derived.Maps.RangeWalk
import Derived.Test.YtoalkldfhkabnaaGreatDoorW00
import Derived.Test.YtoalkldfhkabnaaGreatDoorW10
import Derived.Test.YtoalkldfhkabnaaGreatDoorW32
set_option linter.all false
set_option maxRecDepth 10000
set_option maxHeartbeats 16000000
namespace Go.Proofs.YtoalkldfhkabnaaGreatDoor
open Go.RowKit Fq
def Ct (w : WQ) (q : Nat) : Prop := ∀ cs t fz, w.heap[q]? ≠ some (.cells cs t fz)
theorem HasM.notCells {w : WQ} {P : Program} {k b n : Nat} {f : List UInt8 -> Option Value} (h : HasM w P k b n f) : Ct w b := by
 obtain ⟨D, ⟨es, x5, h1, _⟩, _⟩ := h
 intro cs t fz e; rw [h1] at e; cases e
theorem Es.notCells {w : WQ} {P : Program} {k b r n j0 : Nat} {f : List UInt8 -> Option Value} {i0 : List UInt8 -> Bool} (h : Es w P k b r n f i0 j0) : Ct w r := by
 obtain ⟨D, L, ⟨es, x5, s7, r7, c0, _, _, _, _, h1, _⟩, _⟩ := h
 intro cs t fz e; rw [h1] at e; cases e
theorem Es.ne {w : WQ} {P : Program} {k b r n j0 : Nat} {f : List UInt8 -> Option Value} {i0 : List UInt8 -> Bool} (h : Es w P k b r n f i0 j0) : r ≠ b := by
 obtain ⟨D, L, h1, _⟩ := h; exact h1.ne
theorem An.grown {w w' : WQ} {p t : Nat} {cs : Array Value} (h : An w p t cs) {r : Option Nat} (hg : w.grownBy w' r) (hr : ∀ q, r = some q -> Ct w q) : An w' p t cs := by
 have hl := (qg.1 h).1
 exact (hg.block p hl (fun e => hr p e.symm _ _ _ h)).trans h
theorem HamF.grown' {w w' : WQ} {b : Nat} {v : Value} (h : HamF w b v) {r : Option Nat} (hg : w.grownBy w' r) (hr : ∀ q, r = some q -> Ct w q) : HamF w' b v := by
 obtain ⟨b1, b2, h1, h2, h3, h4, h5⟩ := h
 exact ⟨b1, b2, h1, h2.grown hg hr, h3.grown hg hr, h4, h5⟩
theorem MapR.grown {w w' : WQ} {b n : Nat} {K : List (List UInt8)} {h : Bool} (hm : MapR w b n K h) {r : Option Nat} (hg : w.grownBy w' r) (hr : ∀ q, r = some q -> Ct w q ∧ q ≠ b) : MapR w' b n K h := by
 obtain ⟨f, h1, h2, h3⟩ := hm
 refine ⟨f, h1.kept hg (fun e => (hr b e.symm).2 rfl), h2, fun e => ?_⟩
 obtain ⟨v, h4, h5⟩ := h3 e
 exact ⟨v, h4, h5.grown' hg (fun q e => (hr q e).1)⟩
def GfF (w : WQ) (v : Value) : Prop := ∃ g b1 x, v = .slice (sQ g) 2 2 ∧ An w g 189 #[.string { data := #[78] }, .func (Fn.func 187) #[] #[pQ b1], .nilFunc, .string { data := #[78, 78, 76] }, x, .nilFunc] ∧ An w b1 194 #[.func (Fn.func 133) #[] #[]]
def HamS (w : WQ) (v : Value) : Prop := ∃ g c b1 b2 e0, v = .slice (sQ g) 1 c ∧ 1 <= c ∧ c <= maxLen ∧ An w g 189 e0 ∧ e0[0]? = some (.string { data := #[70, 78] }) ∧ e0[1]? = some (.func (Fn.func 289) #[] #[pQ b1]) ∧ e0[2]? = some (.func (Fn.func 199) #[] #[]) ∧ An w b1 236 #[.func (Fn.func 287) #[] #[pQ b2]] ∧ An w b2 234 #[.func (Fn.func 198) #[] #[]]
theorem GfF.grown {w w' : WQ} {v : Value} (h : GfF w v) {r : Option Nat} (hg : w.grownBy w' r) (hr : ∀ q, r = some q -> Ct w q) : GfF w' v := by
 obtain ⟨g, b1, x, h1, h2, h3⟩ := h
 exact ⟨g, b1, x, h1, h2.grown hg hr, h3.grown hg hr⟩
theorem HamS.grown {w w' : WQ} {v : Value} (h : HamS w v) {r : Option Nat} (hg : w.grownBy w' r) (hr : ∀ q, r = some q -> Ct w q) : HamS w' v := by
 obtain ⟨g, c, b1, b2, e0, h1, h2, h3, h4, h5, h6, h7, h8, h9⟩ := h
 exact ⟨g, c, b1, b2, e0, h1, h2, h3, h4.grown hg hr, h5, h6, h7, h8.grown hg hr, h9.grown hg hr⟩
def TabI (w : WQ) (bt n : Nat) (ft : List UInt8 -> Option Value) (D : List UInt8 -> Prop) (h : Prop) : Prop :=
 HasM w Tryz.prog 9 bt n ft ∧ (∀ s, ft s ≠ none -> D s) ∧ (∃ v, ft gfK = some v ∧ GfF w v) ∧ (h -> ∃ v, ft hamK = some v ∧ HamS w v)
theorem TabI.grown {w w' : WQ} {bt n : Nat} {ft : List UInt8 -> Option Value} {D : List UInt8 -> Prop} {h : Prop} (ht : TabI w bt n ft D h) {r : Option Nat} (hg : w.grownBy w' r) (hr : ∀ q, r = some q -> Ct w q ∧ q ≠ bt) : TabI w' bt n ft D h := by
 obtain ⟨h1, h2, ⟨v, h3, h4⟩, h5⟩ := ht
 refine ⟨h1.kept hg (fun e => (hr bt e.symm).2 rfl), h2, ⟨v, h3, h4.grown hg (fun q e => (hr q e).1)⟩, fun e => ?_⟩
 obtain ⟨u, h6, h7⟩ := h5 e
 exact ⟨u, h6, h7.grown hg (fun q e => (hr q e).1)⟩
theorem TabI.below {w w' : WQ} {bt n : Nat} {ft : List UInt8 -> Option Value} {D : List UInt8 -> Prop} {h : Prop} (ht : TabI w bt n ft D h) (hb : From w w') : TabI w' bt n ft D h := ht.grown (Aw hb none) (fun q e => by cases e)
theorem TabI.put {w w' : WQ} {bt n m : Nat} {ft : List UInt8 -> Option Value} {D D' : List UInt8 -> Prop} {h h' : Prop} (ht : TabI w bt n ft D h) (k : List UInt8) (v : Value) (hM : HasM w' Tryz.prog 9 bt m (putM ft k v)) (hg : w.grownBy w' (some bt)) (hk : k ≠ gfK) (hD : ∀ s, D s ∨ s = k -> D' s) (hh : h' -> (k = hamK ∧ HamS w v) ∨ (k ≠ hamK ∧ h)) : TabI w' bt m (putM ft k v) D' h' := by
 obtain ⟨h1, h2, ⟨u, h3, h4⟩, h5⟩ := ht
 have b0 : ∀ q, some bt = some q -> Ct w q := fun q e => by injection e with e; subst e; exact h1.notCells
 refine ⟨hM, fun s hs => ?_, ⟨u, by unfold putM; rw [if_neg (fun e => hk e.symm)]; exact h3, h4.grown hg b0⟩, fun e => ?_⟩
 ·unfold putM at hs
  split at hs
  ·rename_i e; exact hD s (.inr e)
  ·exact hD s (.inl (h2 s hs))
 ·rcases hh e with ⟨e1, e2⟩ | ⟨e1, e2⟩
  ·exact ⟨v, by unfold putM; rw [if_pos e1.symm], e2.grown hg b0⟩
  ·obtain ⟨x, h6, h7⟩ := h5 e2
   exact ⟨x, by unfold putM; rw [if_neg (fun e => e1 e.symm)]; exact h6, h7.grown hg b0⟩
def famN : Nat -> Nat | 0 => 10 | 1 => 6 | 2 => 13 | _ => 8
def famK : Nat -> List (List UInt8) | 0 => dK | 1 => bI | 2 => bS | _ => Ux
def famH : Nat -> Bool | 0 => true | _ => false
def Ow : Nat -> List (List UInt8) | 0 => [gfK] | i + 1 => famK i ++ Ow i
theorem lM : (Tryz.prog.info? 189).map (fun i => (i.zero, i.size, i.bytes)) = some (some (.agg #[.string { data := #[] }, .nilFunc, .nilFunc]), 3, 32) := by kernel_rfl
theorem fD : ∀ i, i < 4 -> ∀ s, s ∈ famK i -> s ∉ Ow i := by decide
theorem qH : ∀ i, i < 4 -> 0 < i -> hamK ∉ famK i := by decide
theorem oX : ∀ i, i < 5 -> gfK ∈ Ow i := by decide
theorem fG (w : WQ) : cQ 92 #[] w (fun e w' => ∃ bt n ft, e = .returned (.map (some bt)) ∧ TabI w' bt n ft (fun _ => True) True ∧ From w w') := by
 have m7 := @run_makeMap Tryz.prog
 have p7 := Bz
 have q7 := Du
 have g1 := sK Ub
 unfold Ez RowC at g1
 have H0 := sK pD
 have H1 := sK qA
 have H2 := sK pX
 have H3 := sK kE
 unfold Gd at H0 H1 H2 H3
 have y1 := sK (HasM.made w Tryz.prog 9)
 obtain ⟨i1, hj, a7, b7, c7⟩ := info_parts lM
 go_enter Tryz.func92, Tryz.ntmps92
 go_upto_region 2 with (first
  | (have _t := t4; go_at_call 132; refine (g1 _ _ _ _).mono ?_; rintro e w8 ⟨v, rfl, ⟨b2, rfl, o6, v2⟩, v0⟩)
  | (go_at_call 132; refine (g1 _ _ _ _).mono ?_; rintro e w7 ⟨v, rfl, ⟨b1, rfl, n2, u2⟩, c1⟩; have t4 := n2)
  | (refine Fx _ rfl _ _ _ 134 rfl 9 195 Tryz.underlying9 Tryz.underlying134 _ _ _ rfl (((y1.kept (Aw c1 none) (by simp)).kept (Aw v0 none) (by simp)).kept (Aw (Ac w8 _) none) (by simp)) (by unfold maxLen; omega) _ rfl (by unfold maxLen; decide) _ rfl ?_; intro w9 c4 r1))
 have i2 : TabI w9 w.heap.size 1 (putM (fun _ => none) gfK (.slice (sQ w8.heap.size) 2 2)) (· ∈ Ow 0) False := by
  have j6 : HasM (w8.alloc (.cells #[.string { data := #[78] }, .func (Fn.func 187) #[] #[pQ b1], .nilFunc, .string { data := #[78, 78, 76] }, .func (Fn.func 187) #[] #[pQ b2], .nilFunc] 189)) Tryz.prog 9 w.heap.size 0 (fun _ => none) := ((y1.kept (Aw c1 none) (by simp)).kept (Aw v0 none) (by simp)).kept (Aw (Ac w8 _) none) (by simp); have b0 : ∀ q, some w.heap.size = some q -> Ct (w8.alloc (.cells #[.string { data := #[78] }, .func (Fn.func 187) #[] #[pQ b1], .nilFunc, .string { data := #[78, 78, 76] }, .func (Fn.func 187) #[] #[pQ b2], .nilFunc] 189)) q := fun q e => by injection e with e; subst e; exact j6.notCells
  refine ⟨c4, fun s hs => ?_, ⟨_, by unfold putM; rw [if_pos rfl], _, _, _, rfl, (An.new w8 _ 189).grown r1 b0, ((n2.from v0).from (Ac w8 _)).grown r1 b0⟩, fun h => h.elim⟩; unfold putM at hs; split at hs
  ·rename_i e; rw [e]; decide
  ·exact absurd rfl hs
 have y3 : From w w9 := ((Ac w _).trans (qf (Aa (Ac w8 _) (Aa v0 c1)) (by simp))).grown r1 (by simp [Nat.le_of_lt]; have := c1.size; have := v0.size; simp at *; omega) (fun k hk => by injection hk with hk; omega)
 have v3 := sK i2
 have q3 := sK y3
 have m6 : w.heap.size < w9.heap.size := by have := i2.1.lt; omega
 clear i2 y3 c4 r1 n2 o6 u2 v2 c1 v0 t4
 generalize hbe : w.heap.size = bt at *
 go_upto_region 3 with (first
  | (go_at_call 136; refine (H0 _).mono ?_; rintro e x0 ⟨m0, rfl, o4, t1, g3⟩)
  | (go_at_call 137; refine (H1 _).mono ?_; rintro e x1 ⟨m1, rfl, p4, u2, i3⟩)
  | (go_at_call 138; refine (H2 _).mono ?_; rintro e x2 ⟨m2, rfl, q4, v2, j3⟩)
  | (go_at_call 139; refine (H3 _).mono ?_; rintro e x3 ⟨m3, rfl, r4, r6, k3⟩))
 obtain ⟨W, hW⟩ := xQ (x3.alloc (.cells #[.map (some m0), .map (some m1), .map (some m2), .map (some m3)] 196))
 have n3 : From x3 W := by rw [hW]; exact Ac _ _
 have a0 : An W x3.heap.size 196 #[.map (some m0), .map (some m1), .map (some m2), .map (some m3)] := by rw [hW]; exact An.new _ _ _
 rw [<- hW]
 clear hW
 have r2 : From x2 W := Aa n3 k3
 have p2 : From x1 W := Aa r2 j3
 have o2 : From x0 W := Aa p2 i3
 have n1 : From w9 W := Aa o2 g3
 obtain ⟨bf, l2⟩ : ∃ bf : Nat -> Nat, bf = fun i => match i with | 0 => m0 | 1 => m1 | 2 => m2 | _ => m3 := ⟨_, rfl⟩
 have d4 : ∀ j, j < 4 -> MapR W (bf j) (famN j) (famK j) (famH j) ∧ bt < bf j := fun j hj => by
  have s0 := g3.size; have s1 := i3.size; have s2 := j3.size; have s3 := k3.size; rw [l2]
  rcases (by omega : j = 0 ∨ j = 1 ∨ j = 2 ∨ j = 3) with rfl | rfl | rfl | rfl
  ·exact ⟨o4.from o2, by show bt < m0; omega⟩
  ·exact ⟨p4.from p2, by show bt < m1; omega⟩
  ·exact ⟨q4.from r2, by show bt < m2; omega⟩
  ·exact ⟨r4.from n3, by show bt < m3; omega⟩
 have i4 : ∀ j, j < 4 -> (#[.map (some m0), .map (some m1), .map (some m2), .map (some m3)] : Array Value)[j]? = some (.map (some (bf j))) := fun j hj => by
  rw [l2]
  rcases (by omega : j = 0 ∨ j = 1 ∨ j = 2 ∨ j = 3) with rfl | rfl | rfl | rfl <;> rfl
 obtain ⟨gs, m4⟩ := xQ x3.heap.size
 rw [<- m4] at a0 ⊢
 have i5 := sK a0
 have o5 := sK d4
 have a5 := sK i4
 have t5 := sK (v3.below n1)
 have d5 := sK (q3.trans (qf n1 (by omega)))
 have p3 := sK hbe
 have l6 : bt < W.heap.size := by have := n1.size; omega
 clear a0 d4 i4 l2 m4 o2 p2 r2 n1 n3 g3 i3 j3 k3 o4 p4 q4 r4 t1 u2 v2 r6 v3 q3 m6 H0 H1 H2 H3 g1 y1
 generalize (#[.map (some m0), .map (some m1), .map (some m2), .map (some m3)] : Array Value) = fs at *
 clear hbe
 go_loopw [17] (fun o3 wr => ∃ (i n : Nat) (ft : List UInt8 -> Option Value), i <= 4 ∧ o3 = nQ i ∧ n <= 1 + 20 * i ∧ TabI wr bt n ft (· ∈ Ow i) (0 < i) ∧ (∀ j, i <= j -> j < 4 -> MapR wr (bf j) (famN j) (famK j) (famH j) ∧ bt < bf j) ∧ An wr gs 196 fs ∧ From w wr ∧ bt < wr.heap.size) (fun o3 _ => 4 - (intOf o3).toNat)
 case atStart =>
  obtain ⟨a1, a2, a3, _⟩ := t5.out; exact ⟨0, 1, _, by omega, rfl, by omega, ⟨a1, a2, a3, fun h => absurd h (by omega)⟩, fun j _ hj => o5 j hj, i5.out, d5.out, l6⟩
 case round =>
  obtain ⟨i, n, ft, hi, rfl, hn, hT, g0, a0, hF, i7⟩ := hrel; obtain ⟨wo, rfl⟩ := xQ wr
  by_cases hi4 : i < 4
  ·obtain ⟨⟨f, hM, hK, hH⟩, f7⟩ := g0 i (qb _) hi4
   have p0 : wo.cell? ⟨gs, i, none⟩ = some (.map (some (bf i))) := (a0.cell i).trans (a5 i hi4); have k7 : (i : Int) < 4 := by omega
   have HT := sK hT; have z1 := sK g0; have k5 := sK a0; have HF := sK hF; have HK := sK hK; have HH := sK hH; have HN := sK hn; clear hT g0 a0 hF hK hH hn; go_upto_region 6 with (at_range; refine Om _ rfl _ 196 rfl 9 189 Tryz.underlying9 Tryz.underlying196 (bf i) (famN i) f rfl hM ?_; intro w1 j0 g4 d0 w0 v6)
   go_frame; obtain ⟨r, hr⟩ := xQ wo.heap.size; rw [<- hr] at d0 ⊢; have g7 : bt < r := by omega
   have u1 := d0.lt; have s4 : ∀ q, (none : Option Nat) = some q -> Ct wo q ∧ q ≠ bt := fun q e => by cases e
   have s5 := sK (HT.grown w0 s4); have q5 := sK d0; have f5 : Hid (∀ v, f hamK = some v -> famH i = true -> HamF w1 (bf i) v) := sK fun v hv hh => by
    obtain ⟨v', e1, e2⟩ := HH hh; rw [hv] at e1
    cases e1
    exact e2.grown' w0 (fun q e => by cases e)
   have p5 : Hid (∀ j, i < j -> j < 4 -> MapR w1 (bf j) (famN j) (famK j) (famH j) ∧ bt < bf j) := sK fun j h1 h2 => ⟨(z1 j (by omega) h2).1.grown w0 (fun q e => by cases e), (z1 j (by omega) h2).2⟩
   have j5 := sK (k5.grown w0 (fun q e => by cases e)); have b5 := sK (HF.grown w0 HF.size (fun k hk => by cases hk)); have z4 := sK g4; have j4 : ¬ (famN i) > 13 := by
    rcases (by omega : i = 0 ∨ i = 1 ∨ i = 2 ∨ i = 3) with rfl | rfl | rfl | rfl <;> decide
   have c5 := sK j4; have e7 := sK hr; have r3 : Hid (∀ j, i <= j -> j < 4 -> bf j < r) := sK fun j h1 h2 => by rw [hr]; exact (z1 j h1 h2).1.lt
   clear w0 v6 d0 g4 j4 hr hM p0 s4
   go_loopw [] (fun wy => ∃ (i0 : List UInt8 -> Bool) (j0 n' : Nat) (l0 : List UInt8 -> Option Value), Es wy Tryz.prog 9 (bf i) r (famN i) f i0 j0 ∧ n' + j0 <= 1 + 20 * (i + 1) ∧ TabI wy bt n' l0 (fun s => s ∈ Ow i ∨ (s ∈ famK i ∧ i0 s = false)) (0 < i ∨ i0 hamK = false) ∧ (∀ v, f hamK = some v -> famH i = true -> HamF wy (bf i) v) ∧ (∀ j, i < j -> j < 4 -> MapR wy (bf j) (famN j) (famK j) (famH j) ∧ bt < bf j) ∧ An wy gs 196 fs ∧ From w wy ∧ r < wy.heap.size) (fun wy => wy.rangeLeft (bf i) r)
   case atStart =>
    obtain ⟨a1, a2, a3, a4⟩ := s5.out; refine ⟨_, j0, n, ft, q5.out, by have := HN.out; have := z4.out; have := c5.out; omega, ⟨a1, fun s hs => .inl (a2 s hs), a3, fun h => a4 ?_⟩, f5.out, p5.out, j5.out, b5.out, u1⟩
    rcases h with h | h
    ·exact h
    ·rcases Xq i with h0 | h0
     ·subst h0
      obtain ⟨v, e1, _⟩ := HH rfl; rw [e1] at h; cases h
     ·exact h0
   case round =>
    clear u1; obtain ⟨i0, y5, n', l0, d0, b0, hT, j1, g0, a0, hF, u1⟩ := hrel; obtain ⟨w4, rfl⟩ := xQ wr; have y2 := d0.left_eq; have f3 := d0.notCells; have u6 := d0.ne; go_wp2_with (at_next; refine Qw _ rfl _ rfl 9 Tryz.underlying9 (bf i) r (famN i) f i0 y5 rfl d0 ?_ ?_)
    ·intro t1
     have t0 := sK hT; have z0 := sK g0; have v1 := sK a0; have n0 := sK hF; have m5 := sK t1; have c2 := sK b0; have n6 : bt < w4.heap.size := by omega
     clear hT g0 a0 hF t1 d0 j1 y2 f3 b0; go_wp2; go_roundw
     case rel =>
      obtain ⟨a1, a2, a3, a4⟩ := t0.out; refine ⟨i + 1, n', l0, by omega, by go_num, by have := c2.out; omega, ⟨a1, fun s hs => ?_, a3, fun _ => a4 (.inr (m5 _))⟩, fun j h1 h2 => z0 j (by omega) h2, v1.out, n0.out, n6⟩
      rcases a2 s hs with h1 | ⟨h1, _⟩
      ·exact List.mem_append_right _ h1
      ·exact List.mem_append_left _ h1
     case measure => simp [intOf]; omega
    ·intro x c w2 z5 y6 z2 o1 u4 n4 o0 x6 j7
     obtain ⟨l3, a, f1, k1, f2, k2, rfl⟩ := HK _ _ o1; have d3 : x.data.toList ∉ Ow i := fD i hi4 _ l3; have p6 : l0 x.data.toList = none := by
      cases hv : l0 x.data.toList with
      | none => rfl
      | some v =>
       rcases hT.2.1 _ (by rw [hv]; simp) with h1 | ⟨_, h1⟩
       ·exact absurd h1 d3
       ·rw [z2] at h1; cases h1
     have y0 : ∀ q, some r = some q -> Ct w4 q ∧ q ≠ bt := fun q e => by injection e with e; subst e; exact ⟨f3, by omega⟩
     have t0 := sK (hT.grown o0 y0); have r5 := sK u4; have y4 : Hid (x.data.toList = hamK -> i = 0 -> HamF w2 (bf i) (.agg #[.string a, .func f1 #[] k1, .func f2 #[] k2])) := sK fun e1 e2 => by
      rw [e1] at o1; exact (j1 _ o1 (by rw [e2]; rfl)).grown' o0 (fun q e => (y0 q e).1)
     have l5 : Hid (∀ v, f hamK = some v -> famH i = true -> HamF w2 (bf i) v) := sK fun v h1 h2 => (j1 v h1 h2).grown' o0 (fun q e => (y0 q e).1)
     have z0 : Hid (∀ j, i < j -> j < 4 -> MapR w2 (bf j) (famN j) (famK j) (famH j) ∧ bt < bf j) := sK fun j h1 h2 => ⟨(g0 j h1 h2).1.grown o0 (fun q e => ⟨(y0 q e).1, by injection e with e; have := r3 j (by omega) h2; omega⟩), (g0 j h1 h2).2⟩
     have v1 := sK (a0.grown o0 (fun q e => (y0 q e).1)); have z6 : w.heap.size <= r := by have := p3.out; omega
     have n0 := sK (hF.grown o0 hF.size (fun k hk => by injection hk with hk; omega)); have v4 := y6; have c2 := sK b0; have u3 := sK n4; have d7 := sK z2; have w3 := sK l3; have n5 := sK y2; have hn'9 : n' < maxLen := by unfold maxLen; omega
     have o7 : r < w2.heap.size := by omega
     have l4 : x.data.toList ≠ gfK := fun e => d3 (by rw [e]; exact oX i (by omega))
     have g5 := sK l4; clear hT g0 a0 hF d0 j1 y2 f3 b0 n4 z2 l3 d3 l4 y0 o0 x6 u4 o1 u1 u6 z6; go_upto_region 8 with fail
     obtain ⟨W3, l1⟩ := xQ (w2.alloc (.cells #[.string a, .func f1 #[] k1, .func f2 #[] k2] 189)); have j2 : From w2 W3 := by rw [l1]; exact Ac _ _
     have h3 : Blk W3 w2.heap.size #[.string a, .func f1 #[] k1, .func f2 #[] k2] := by rw [l1]; exact Blk.new _ _ _
     rw [<- l1]; clear l1; have z3 := (t0.out.1.kept (Aw j2 none) (by simp))
     have x4 := sK j2; obtain ⟨q0, q1, q2⟩ := h3.t3; clear h3 j2; go_wp2_with (first
      | (at_lookup; refine Fw _ rfl _ _ 134 rfl 9 195 Tryz.underlying9 Tryz.underlying134 (eQ) (Tryz.zeroValue195 _) bt n' l0 rfl z3 x rfl v4 ?_; rw [p6])
      | (at_builtin; refine wpList_append_lies _ rfl (.tmp 32) (.tmp 34) 195 rfl 0 189 i1 _ 3 32 Tryz.underlying195 hj a7 b7 c7 rfl (by omega) _ 0 [] rfl (Rq _ _ _ _) ⟨W3.heap.size, 0, none⟩ 1 1 [.string a, .func f1 #[] k1, .func f2 #[] k2] rfl rfl (Dv W3 #[.string a, .func f1 #[] k1, .func f2 #[] k2] 189) (by simp [Value.oneCell']) (by omega) (by unfold maxLen; omega) (by omega) (qe _) _ rfl ?_; intro g2 d2 w5 t6 q6 n7 l7; have k4 : (W3.alloc (.cells #[.string a, .func f1 #[] k1, .func f2 #[] k2] 189)).grownBy w5 none := q6; have b4 := (z3.kept (Aw (Ac W3 (.cells #[.string a, .func f1 #[] k1, .func f2 #[] k2] 189)) none) (by simp)).kept k4 (by simp))
      | (at_mapUpdate; refine Kc _ rfl _ _ _ 134 rfl 9 195 Tryz.underlying9 Tryz.underlying134 bt n' l0 rfl b4 hn'9 x rfl v4 _ rfl ?_; intro w6 g6 r0))
     have i6 : HasM w6 Tryz.prog 9 bt (n' + 1) (putM l0 x.data.toList (.slice (sQ g2) 1 d2)) := g6; have e6 : From W3 (W3.alloc (.cells #[.string a, .func f1 #[] k1, .func f2 #[] k2] 189)) := Ac _ _; have f0 : w2.grownBy w5 none := ((Aw x4 none).trans (Aw e6 none)).trans k4; have d1 : ∀ q, (none : Option Nat) = some q -> Ct w2 q ∧ q ≠ bt := fun q e => by cases e
     have k6 := t0.grown f0 d1; have s6 : Ct w5 bt := b4.notCells; have c3 : ∀ q, some bt = some q -> Ct w5 q := fun q e => by injection e with e; subst e; exact s6
     have f4 := (r5.kept f0 (by simp) (by simp)).kept r0 (fun e => by injection e with e; have := r3 i (qb _) hi4; omega) (fun e => by injection e with e; omega); have f6 : x.data.toList = hamK -> i = 0 -> HamS w5 (.slice (sQ g2) 1 d2) := fun e1 e2 => by
      obtain ⟨u5, v5, e3, e4, e5, _⟩ := y4 e1 e2; simp only [Value.agg.injEq, Array.mk.injEq, List.cons.injEq, Value.string.injEq, Value.func.injEq, and_true] at e3; obtain ⟨ea, ⟨a6, c6⟩, b6, d6⟩ := e3
      rcases t6.2 with ⟨h1, _⟩ | ⟨g', cap', e0, h1, _, h2, h3, h4, h5, h6⟩
      ·cases h1
      ·simp only [qm, qc, qd, and_true, true_and] at h1
       obtain ⟨rfl, rfl⟩ := h1; have t2 : ∀ k, k < 3 -> e0[k]? = ([.string a, .func f1 #[] k1, .func f2 #[] k2] : VQ)[k]? := fun k hk => by
        rw [show ([.string a, .func f1 #[] k1, .func f2 #[] k2] : VQ) = e0.toList.take (1 * 3) from h6.symm, List.getElem?_take_of_lt (by omega), Array.getElem?_toList]
       refine ⟨g2, d2, u5, v5, e0, rfl, h3, h4, h2, ?_, ?_, ?_, (e4.grown f0 (fun q e => (d1 q e).1)), (e5.grown f0 (fun q e => (d1 q e).1))⟩
       ·rw [t2 0 (by omega), ea]; rfl
       ·rw [t2 1 (by omega), a6, c6.2]; rfl
       ·rw [t2 2 (by omega), b6, d6.2]; rfl
     refine ⟨⟨_, z5, f4, n' + 1, by have := c2.out; have := u3.out; omega, ⟨_, k6.put x.data.toList _ i6 r0 g5 (fun s hs => ?_) (fun h' => ?_)⟩, fun v h1 h2 => ((l5 v h1 h2).grown' f0 (fun q e => (d1 q e).1)).grown' r0 c3, fun j h1 h2 => ⟨((z0 j h1 h2).1.grown f0 (fun q e => by cases e)).grown r0 (fun q e => ⟨c3 q e, by injection e with e; have := (z0 j h1 h2).2; omega⟩), (z0 j h1 h2).2⟩, (v1.grown f0 (fun q e => (d1 q e).1)).grown r0 c3, ?_, ?_⟩, ?_⟩
     ·rcases hs with (h1 | ⟨h1, h2⟩) | h1
      ·exact .inl h1
      ·exact .inr ⟨h1, by simp [h2]⟩
      ·rw [h1]; exact .inr ⟨w3.out, by simp⟩
     ·by_cases hxh : x.data.toList = hamK
      ·refine .inl ⟨hxh, f6 hxh ?_⟩
       rcases Xq i with h0 | h0
       ·exact h0
       ·exact absurd (hxh ▸ w3.out) (qH i hi4 h0)
      ·refine .inr ⟨hxh, ?_⟩
       rcases h' with h' | h'
       ·exact .inl h'
       ·right
        simp only [Bool.and_eq_false_iff] at h'
        rcases h' with h' | h'
        ·exact h'
        ·simp at h'; exact absurd h'.symm hxh
     ·exact (n0.grown f0 n0.size (fun k hk => by cases hk)).grown r0 (by have := n0.size; have := f0.size; omega) (fun k hk => by injection hk with hk; have := p3.out; omega)
     ·have := f0.size; have := r0.size; omega
     ·rw [f4.left_eq, n5.out]; exact u3.out
  ·obtain rfl : i = 4 := by omega
   have t0 := sK hT; have n0 := sK hF; clear hT g0 a0 hF; go_wp2; go_ret; obtain ⟨a1, a2, a3, a4⟩ := t0.out; exact ⟨bt, n, ft, rfl, ⟨a1, fun _ _ => trivial, a3, fun _ => a4 (by omega)⟩, n0.out⟩
theorem cK (b B m : Nat) (w : WQ) (bs : VQ) (s : ByteArray) (g n c : Nat) (vs : VQ) (hs : s.size <= 20) (hr : RowT w g vs) (hnc : n <= c) (hc : c <= maxLen) (hn : n <= 10) (hm : m <= 50) (hB : Lib.IsBuilderF 80 5 B b bs w) (K : Nat) (hK : K <= 2000) (hl : bs.length <= K) (hg : g ≠ b)
  (HA : ∀ j, j < n -> ∃ a0 a1 a2 a3 a4, (vs[j * 5]? = some a0 ∧ vs[j * 5 + 1]? = some a1 ∧ vs[j * 5 + 2]? = some a2 ∧ vs[j * 5 + 3]? = some a3 ∧ vs[j * 5 + 4]? = some a4) ∧ ∀ wx b0, Below B w wx -> Lib.OthersKept 5 (some b) w wx -> Lib.IsBuilderF 80 5 B b b0 wx -> b0.length <= K + 1100 -> cQ 42 #[pQ b, .agg #[a0, a1, a2, a3, a4]] wx (Fb b B m wx b0)) :
  cQ 42 #[pQ b, Cw s g n c] w (Fb b B (s.size + 2 + n * (m + 2)) w bs) := by
 have l2 := qR hB
 have m2 : ¬ (65536 : Int) < (bs.length : Int) := by omega
 have HB := sK hB
 have hmf := hmf
 have n1 := sK HA
 have HR := sK hr
 have g2 := hc
 unfold maxLen at g2
 unfold Fb
 clear hB HA hr
 go_enter Tryz.func42, Tryz.ntmps42
 go_upto_region 1 with fail
 obtain ⟨W, hW⟩ := xQ ((w.alloc (.cells #[pQ b] 77)).alloc (.cells #[.int .i64 3, .string s, zQ, eQ, .slice (sQ g) n c] 40))
 have h2 : An W w.heap.size 77 #[pQ b] := by rw [hW]; exact (An.new w _ _).from (Ac _ _)
 have h3 : An W (w.heap.size + 1) 40 #[.int .i64 3, .string s, zQ, eQ, .slice (sQ g) n c] := by
  rw [hW]; have h9 := An.new (w.alloc (.cells #[pQ b] 77)) #[.int .i64 3, .string s, zQ, eQ, .slice (sQ g) n c] 40; simpa using h9
 have i0 : Lib.IsBuilderF 80 5 B b bs W := by rw [hW]; exact (HB.alloc _).alloc _
 have j0 : From w W := by rw [hW]; exact Aa (Ac _ _) (Ac _ _)
 rw [<- hW]
 have f0 := sK j0
 have t0 := sK (Ty b B W bs i0)
 have d2 : B <= W.heap.size := by have := j0.size; omega
 have x0 := sK (Tryz.Builder_WriteString_k B b bs s W i0 (by omega) d2)
 have H2 := sK h2
 have H3 := sK h3
 have p0 := h2.cell 0
 have q0 := h3.cell 0
 have q1 := h3.cell 1
 simp at p0 q0 q1
 clear hW i0 j0 h2 h3 HB
 have d0 : w.heap.size ≠ b := by omega
 have m1 : w.heap.size + 1 ≠ b := by omega
 go_upto_region 13 with (go_at_call 85; refine t0.mono ?_; rintro e w' ⟨rfl, rfl⟩)
 go_upto_region 14 with (go_at_call 87; refine x0.mono ?_; rintro e w1 ⟨rfl, y0, l0, f1⟩)
 have o1 : Hid (Lib.IsBuilderF 80 5 B b (bs ++ Lib.strCells s) w1) := sK (.inr y0)
 have v1 : Hid (Below B W w1) := sK l0
 have o0 : Hid (Lib.OthersKept 5 (some b) W w1) := sK f1
 have c0 : (Lib.strCells s).length = s.size := Lib.strCells_length s
 have w0 := sK (Tryz.Builder_WriteByte_k B b (bs ++ Lib.strCells s) 40 w1 o1 (by simp [c0]; omega) (by have := l0.size; omega))
 clear y0 l0 f1 p0 q0 q1 x0 t0
 have p0 := (H2.ok o0 d0 (by decide)).cell 0
 simp at p0
 go_upto_region 15 with (go_at_call 89; refine w0.mono ?_; rintro e w2 ⟨rfl, z0, c1, g1⟩)
 have r1 : Hid (Lib.IsBuilderF 80 5 B b (bs ++ Lib.strCells s ++ [.int .u8 40]) w2) := sK (.inr z0)
 have h0 : Hid (Below B W w2) := sK (v1.trans c1)
 have g0 : Hid (Lib.OthersKept 5 (some b) W w2) := sK (o0.trans g1)
 clear z0 c1 g1 p0 w0
 have o2 : W.heap.size <= w2.heap.size := h0.size
 have HJ := sK (kS b B m w2 (bs ++ Lib.strCells s ++ [.int .u8 40]) w.heap.size (w.heap.size + 1) n hn (H2.ok g0 d0 (by decide)) d0 (r1.out) (by omega) (K + 100) (by omega) (by simp [c0]; omega) hm (fun j hj wx b0 m0 j2 z1 n2 => by
  obtain ⟨a0, a1, a2, a3, a4, ⟨e0, e1, e2, e3, e4⟩, hA⟩ := n1 j hj; have n0 : Lib.OthersKept 5 (some b) W wx := g0.trans j2; have j1 : Lib.OthersKept 5 (some b) w wx := (He f0.out).trans n0; have f2 : Below B w wx := (qf f0 (by omega)).trans (h0.trans m0); refine pB b B m wx b0 w.heap.size (w.heap.size + 1) s g n c vs (H2.ok n0 d0 (by decide)) (H3.ok n0 m1 (by decide)) (HR.ok j1 hg) j hj hnc hc a0 a1 a2 a3 a4 e0 e1 e2 e3 e4 (fun wy hy => ?_) (by have := m0.size; omega); exact hA wy b0 (f2.trans (qf hy (by have := m0.size; omega))) (j1.trans (He hy)) (jH z1 hy) (by omega)))
 have q4 := (H3.ok g0 m1 (by decide)).cell 4
 simp at q4
 go_upto_region 16 with (go_at_call 86; refine HJ.mono ?_; rintro e w3 ⟨⟨v, rfl⟩, l, k1, b1, d1, i1⟩)
 have s1 := sK b1
 have v0 : Hid (Below B W w3) := sK (h0.trans d1)
 have r0 : Hid (Lib.OthersKept 5 (some b) W w3) := sK (g0.trans i1)
 have t1 := sK k1
 have l1 : n * (m + 2) <= 10 * 52 := qbx (by omega) (by omega)
 have x1 := sK (Tryz.Builder_WriteByte_k B b _ 41 w3 s1 (by simp [c0]; omega) (by have := v0.size; omega))
 clear b1 d1 i1 q4 HJ k1
 have p0 := (H2.ok r0 d0 (by decide)).cell 0
 simp at p0
 have k2 := sK l1
 have u1 := sK c0
 clear l1 c0
 go_wp2_with (go_at_call 89; refine x1.mono ?_; rintro e w4 ⟨rfl, y1, c2, i2⟩)
 go_end0
 refine ⟨⟨_, rfl⟩, Lib.strCells s ++ ([.int .u8 40] ++ (l ++ [.int .u8 41])), ?_, ?_, (qf f0 (by omega)).trans (v0.trans c2), (He f0.out).trans (r0.trans i2)⟩
 ·have h1 := t1.out
  have h2 := u1.out; simp [h2]; omega
 ·have : Lib.IsBuilderF 80 5 B b _ w4 := .inr y1
  simpa [qap] using this
theorem sE (b B : Nat) (w : WQ) (bs : VQ) (g1 c1 : Nat) (hr : RowT w g1 num2) (j0 : 1 <= c1) (hc : c1 <= maxLen) (hB : Lib.IsBuilderF 80 5 B b bs w) (hl : bs.length <= 1200) (hg : g1 ≠ b) : cQ 42 #[pQ b, Cw bGf g1 1 c1] w (Fb b B 8 w bs) :=
 cK b B 2 w bs bGf g1 1 c1 num2 (by decide) hr j0 hc (by omega) (by omega) hB 1200 (by omega) hl hg fun j hj => by
  obtain rfl : j = 0 := by omega
  exact ⟨_, _, _, _, _, ⟨rfl, rfl, rfl, rfl, rfl⟩, fun wx l0 _ _ hx l1 => iQ b B wx l0 2 (by omega) (by rw [Lib.decDigits]; simp) hx (by omega)⟩
theorem rD (b B : Nat) (w : WQ) (g0 c0 g1 c1 : Nat) (hr : RowT w g0 (gfV g1 c1 ++ num3)) (r0 : RowT w g1 num2) (j0 : 2 <= c0) (hc : c0 <= maxLen) (q0 : 1 <= c1) (n0 : c1 <= maxLen) (hB : Lib.IsBuilderF 80 5 B b [] w) (hg : g0 ≠ b) (o0 : g1 ≠ b) : cQ 42 #[pQ b, Cw bHam g0 2 c0] w (Fb b B 29 w []) :=
 cK b B 8 w [] bHam g0 2 c0 (gfV g1 c1 ++ num3) (by decide) hr j0 hc (by omega) (by omega) hB 0 (by omega) (by simp) hg fun j hj => by
  rcases (by omega : j = 0 ∨ j = 1) with rfl | rfl
  ·exact ⟨_, _, _, _, _, ⟨rfl, rfl, rfl, rfl, rfl⟩, fun wx l0 _ hk hx l1 => sE b B wx l0 g1 c1 (r0.ok hk o0) q0 n0 hx (by omega) o0⟩
  ·exact ⟨_, _, _, _, _, ⟨rfl, rfl, rfl, rfl, rfl⟩, fun wx l0 _ _ hx l1 => by
    have := iQ b B wx l0 3 (by omega) (by rw [Lib.decDigits]; simp) hx (by omega); exact this.mono fun e w' h => by
     obtain ⟨h1, l, h2, h3⟩ := h; exact ⟨h1, l, by omega, h3⟩⟩
theorem Zz (w : WQ) (D g0 c0 g1 c1 : Nat) (h : HamE w D g0 c0 g1 c1) : cQ 41 #[hamV g0 c0] w (Ah (zQ) w) := by
 obtain ⟨hr, j0, hc, _⟩ := RowT.of h.top
 obtain ⟨r0, q0, n0, _⟩ := RowT.of h.sub
 have r1 : g0 < w.heap.size := (h.top.lt g0 rfl).2
 have o0 : g1 < w.heap.size := (h.sub.lt g1 rfl).2
 obtain ⟨hE, m0⟩ := h.rows
 obtain ⟨s, hs⟩ := xQ bHam
 have HF : Hid (∀ wx, From w wx -> cQ 82 #[.agg #[.int .i64 3, .string s, zQ, eQ, .slice (sQ g0) 2 c0]] wx (Ah (.bool true) wx)) := sK fun wx h9 => by rw [hs]; exact kW wx g0 c0 g1 c1 (hE.below h9) (m0.below h9)
 have HM : Hid (∀ wx, From w wx -> cQ 83 #[.agg #[.int .i64 3, .string s, zQ, eQ, .slice (sQ g0) 2 c0]] wx (Ah (.tuple #[.int .i64 3, .bool true]) wx)) := sK fun wx h9 => by rw [hs]; exact Vd wx g0 c0 g1 c1 (hE.below h9) (m0.below h9)
 have HZ : Hid (∀ wx, From w wx -> cQ 84 #[.agg #[.int .i64 3, .string s, zQ, eQ, .slice (sQ g0) 2 c0]] wx (Ah (.int .i64 4) wx)) := sK fun wx h9 => by rw [hs]; exact jI wx g0 c0 g1 c1 (hE.below h9) (m0.below h9)
 have HW : Hid (∀ wx, From w wx -> ∀ b, w.heap.size <= b -> Lib.IsBuilderF 80 5 b b [] wx -> cQ 42 #[pQ b, .agg #[.int .i64 3, .string s, zQ, eQ, .slice (sQ g0) 2 c0]] wx (Fb b b 29 wx [])) := sK fun wx h9 b hb hB => by rw [hs]; exact rD b b wx g0 c0 g1 c1 (hr.from h9) (r0.from h9) j0 hc q0 n0 hB (by omega) (by omega)
 have HL := sK fun (wx : WQ) (b : Nat) (bs : VQ) (hB : Lib.IsBuilderF 80 5 b b bs wx) => Ty b b wx bs hB
 show cQ 41 #[.agg #[.int .i64 3, .string bHam, zQ, eQ, .slice (sQ g0) 2 c0]] w _
 rw [<- hs]
 unfold Ah at HF HM HZ ⊢
 unfold Fb at HW
 clear hs h hr r0 hE m0 j0 hc q0 n0 r1 o0
 go_enter Tryz.func41, Tryz.ntmps41
 go_upto_region 1 with fail
 obtain ⟨W, hW, q1, e1, b0⟩ := mk1 w #[.int .i64 3, .string s, zQ, eQ, .slice (sQ g0) 2 c0] 40
 rw [hW]
 clear hW
 have t0 := sK b0
 have a0 := sK e1
 have d0 := b0.c0
 have e0 := b0.c1
 have f0 := b0.c2
 have h0 := b0.c3
 have i0 := b0.c4
 clear b0 e1 q1
 go_upto_region 3 with (go_at_call 82; refine (HF W a0.out).mono ?_; rintro e w1 ⟨rfl, f1⟩)
 have v0 := sK f1
 clear f1 d0 e0 f0 h0 i0
 have hb := t0.below v0.out
 have d0 := hb.c0
 have e0 := hb.c1
 have f0 := hb.c2
 have h0 := hb.c3
 have i0 := hb.c4
 clear hb
 go_upto_region 4 with (go_at_call 83; refine (HM w1 (Aa v0 a0.out)).mono ?_; rintro e w2 ⟨rfl, i1⟩)
 have w0 := sK (Aa i1 v0.out)
 clear i1 d0 e0 f0 h0 i0
 have hb := t0.below w0.out
 have d0 := hb.c0
 have e0 := hb.c1
 have f0 := hb.c2
 have h0 := hb.c3
 have i0 := hb.c4
 clear hb
 go_upto_region 6 with (go_at_call 84; refine (HZ w2 (Aa w0 a0.out)).mono ?_; rintro e w3 ⟨rfl, j1⟩)
 have x0 := sK (Aa j1 w0.out)
 clear j1 d0 e0 f0 h0 i0
 go_upto_region 7 with fail
 have b1 : Lib.IsBuilderF 80 5 w3.heap.size w3.heap.size [] (w3.alloc (.cells #[.pointer none, eQ] 80)) := Lib.IsBuilderF.of (Lib.fresh_isBuilder 80 5 w3)
 obtain ⟨W4, z0⟩ := xQ (w3.alloc (.cells #[.pointer none, eQ] 80))
 have a1 : From w3 W4 := by rw [z0]; exact Ac _ _
 rw [<- z0] at b1 ⊢
 have y0 := sK (Aa a1 x0.out)
 have o1 := sK (HW W4 (Aa y0 a0.out) w3.heap.size (qs a0.size x0.size) b1)
 have t1 : w3.heap.size <= W4.heap.size := a1.size
 clear z0 a1 b1
 have hb := t0.below y0.out
 have d0 := hb.c0
 have e0 := hb.c1
 have f0 := hb.c2
 have h0 := hb.c3
 have i0 := hb.c4
 clear hb
 go_upto_region 8 with (go_at_call 42; refine o1.mono ?_; rintro e w5 ⟨⟨v, rfl⟩, l, hl, d1, k1, _⟩)
 have n1 := sK (HL w5 w3.heap.size l d1)
 have m1 := sK k1
 have s1 : ¬ (65536 : Int) < (l.length : Int) := by omega
 clear d1 k1 hl d0 e0 f0 h0 i0
 go_wp2_with (go_at_call 85; refine n1.mono ?_; rintro e w6 ⟨rfl, rfl⟩)
 go_ret
 exact ⟨rfl, (a0.trans (qf y0 a0.size)).trans (qf m1 (qs a0.size x0.size))⟩
theorem Nf (w : WQ) : (binOp .eql 187 .nilFunc .nilFunc).run Tryz.prog w = .ok (.bool true) w := by
 have h : ∀ d : Nat, (Op.equalIn (d + 1) 187 .nilFunc .nilFunc).run Tryz.prog w = .ok true w := fun d => by
  simp [Op.equalIn, run_underlying Tryz.underlying187]
 simp only [binOp]
 simp [Op.equal, Op.maxDepth, h 9999]
theorem Kw (w : WQ) (f : Fn) (x c : Array Value) : (binOp .eql 187 (.func f x c) .nilFunc).run Tryz.prog w = .ok (.bool false) w := by
 have h : ∀ d : Nat, (Op.equalIn (d + 1) 187 (.func f x c) .nilFunc).run Tryz.prog w = .ok false w := fun d => by
  simp [Op.equalIn, run_underlying Tryz.underlying187]
 simp only [binOp]
 simp [Op.equal, Op.maxDepth, h 9999]
def Jh (w : WQ) (e : Ending) (w' : WQ) : Prop := ∃ b1, e = .returned (.tuple #[.agg #[.string { data := #[78] }, .func (Fn.func 187) #[] #[pQ b1], .nilFunc], zQ]) ∧ An w' b1 194 #[.func (Fn.func 133) #[] #[]] ∧ From w w'
theorem qZ (w : WQ) (bt n : Nat) (ft : List UInt8 -> Option Value) (D : List UInt8 -> Prop) (hT : TabI w bt n ft D True) (g1 c1 : Nat) : cQ 140 #[.agg #[.map (some bt)], Cw bGf g1 1 c1, .bool true] w (Jh w) := by
 obtain ⟨hM, _, ⟨v, hv, g, b1, xx, rfl, hg, t0⟩, _⟩ := hT
 have g2 := Bz
 have h2 := Du
 have e2 := Nf
 have f2 := Kw
 have c2 : ∀ wx : WQ, _ := fun wx => qbq (P := Tryz.prog) wx 195 189 (sQ g) 2 2 0 0 Tryz.underlying195
 obtain ⟨s, hs⟩ := xQ bGf
 have hk : ft s.data.toList = some (.slice (sQ g) 2 2) := by rw [hs]; exact hv
 have k1 : s.size <= maxLen := by rw [hs]; unfold maxLen; decide
 show cQ 140 #[.agg #[.map (some bt)], .agg #[.int .i64 3, .string bGf, zQ, eQ, .slice (sQ g1) 1 c1], .bool true] w _
 rw [<- hs]
 have HM := sK hM
 have HG := sK hg
 have i0 := sK t0
 unfold Jh
 clear hM hg t0 hs hv
 go_enter Tryz.func140, Tryz.ntmps140
 go_upto_region 1 with fail
 obtain ⟨W, hW, i1, b0, l0, m0, c0⟩ := mk3 w #[.map (some bt)] 137 #[.int .i64 3, .string s, zQ, eQ, .slice (sQ g1) 1 c1] 40 #[.string { data := #[] }, .nilFunc, .nilFunc] 189
 rw [hW]
 clear hW
 have d1 := sK b0
 have o0 := HM.kept (Aw b0 none) (by simp)
 have k0 := l0.t1
 obtain ⟨x0, x1, x2, x3, x4⟩ := m0.t5
 obtain ⟨r0, r1, r2⟩ := c0.t3
 obtain ⟨u0, u1, u2⟩ := c0.u3
 have w0 := (HG.from b0).cell 0
 have z0 := (HG.from b0).cell 1
 have a1 := (HG.from b0).cell 2
 simp at w0 z0 a1
 have e1 := sK c0
 have i2 : w.heap.size + 1 + 1 < W.heap.size := by omega
 clear l0 m0 c0 b0 i1
 go_wp2_with (at_lookup; refine Fw _ rfl _ _ 134 rfl 9 195 Tryz.underlying9 Tryz.underlying134 (eQ) (Tryz.zeroValue195 _) bt n ft rfl o0 s rfl k1 ?_; rw [hk])
 refine wp_loop_rounds 1 ?_
 rw [rounds_succ]
 go_upto_region 9 with fail
 obtain ⟨W5, q0, h1, e0, d0⟩ := mk1 W #[.string { data := #[78] }, .func (Fn.func 187) #[] #[pQ b1], .nilFunc] 189
 rw [q0]
 clear q0
 have g0 := sK (Aa e0 d1.out)
 have a0 := e1.below e0
 have f1 := sK a0
 have j0 := sK (i0.from g0.out)
 clear r0 r1 r2 u0 u1 u2
 have r0 := a0.t1
 have u0 := a0.free 0
 have y0 := d0.t1
 obtain ⟨-, r1⟩ := a0.t2
 have u1 := a0.free 1
 obtain ⟨-, y1⟩ := d0.t2
 obtain ⟨-, -, r2⟩ := a0.t3
 have u2 := a0.free 2
 obtain ⟨-, -, y2⟩ := d0.t3
 have j2 := (e0.cell (p := ⟨w.heap.size + 1, 4, none⟩) (by show w.heap.size + 1 < W.heap.size; omega)).trans x4
 clear a0 d0 e0 h1 x0 x1 x2 x3 x4 k0 w0 z0 a1 o0
 go_wp2
 have f0 := ((f1.set 0 (.string { data := #[78] })).set 1 (.func (Fn.func 187) #[] #[pQ b1])).set 2 (.nilFunc)
 simp only [qj, qo, qp] at f0
 have h0 := ((Ad W5 (w.heap.size + 1 + 1) 0 (.string { data := #[78] })).trans (Ad _ (w.heap.size + 1 + 1) 1 (.func (Fn.func 187) #[] #[pQ b1]))).trans (Ad _ (w.heap.size + 1 + 1) 2 (.nilFunc))
 have n0 := ((g0.setCell (p := ⟨w.heap.size + 1 + 1, 0, none⟩) (by simp <;> omega) (.string { data := #[78] })).setCell (p := ⟨w.heap.size + 1 + 1, 1, none⟩) (by simp <;> omega) (.func (Fn.func 187) #[] #[pQ b1])).setCell (p := ⟨w.heap.size + 1 + 1, 2, none⟩) (by simp <;> omega) (.nilFunc)
 obtain ⟨Z, hZ⟩ := xQ ((((W5.setCell ⟨w.heap.size + 1 + 1, 0, none⟩ (.string { data := #[78] })).setCell ⟨w.heap.size + 1 + 1, 1, none⟩ (.func (Fn.func 187) #[] #[pQ b1])).setCell ⟨w.heap.size + 1 + 1, 2, none⟩ (.nilFunc)))
 rw [<- hZ] at f0 h0 n0 ⊢
 clear hZ
 obtain ⟨v0, v1, v2⟩ := f0.t3
 have z1 := (qg.1 i0.out).1
 have j1 := (h0.block _ (qg.1 j0.out).1 (by simp; omega)).trans j0.out
 refine bodyPost_ret (v := .tuple #[.agg #[.string { data := #[78] }, .func (Fn.func 187) #[] #[pQ b1], .nilFunc], zQ]) (by simp [results, Tryz.results140, go_sem, v0, v1, v2]) rfl ⟨b1, rfl, j1, n0⟩
def Ia (w : WQ) (e : Ending) (w' : WQ) : Prop := ∃ b1 b2, e = .returned (.tuple #[.agg #[.string { data := #[70, 78] }, .func (Fn.func 289) #[] #[pQ b1], .func (Fn.func 199) #[] #[]], zQ]) ∧ (An w' b1 236 #[.func (Fn.func 287) #[] #[pQ b2]] ∧ An w' b2 234 #[.func (Fn.func 198) #[] #[]]) ∧ From w w'
theorem pE (w : WQ) (bt n : Nat) (ft : List UInt8 -> Option Value) (D : List UInt8 -> Prop) (hT : TabI w bt n ft D True) (g1 c1 : Nat) : cQ 140 #[.agg #[.map (some bt)], Cw bHam g1 2 c1, .bool false] w (Ia w) := by
 obtain ⟨hM, _, _, n1⟩ := hT
 obtain ⟨v, hv, g, cg, b1, b2, k2, rfl, m2, d2, hg, q1, s1, w1, t0, o1⟩ := n1 trivial
 unfold maxLen at d2
 have g2 := Bz
 have h2 := Du
 have e2 := Nf
 have f2 := Kw
 have c2 : ∀ wx : WQ, _ := fun wx => qbq (P := Tryz.prog) wx 195 189 (sQ g) 1 cg 0 0 Tryz.underlying195
 obtain ⟨s, hs⟩ := xQ bHam
 have hk : ft s.data.toList = some (.slice (sQ g) 1 cg) := by rw [hs]; exact hv
 have k1 : s.size <= maxLen := by rw [hs]; unfold maxLen; decide
 show cQ 140 #[.agg #[.map (some bt)], .agg #[.int .i64 3, .string bHam, zQ, eQ, .slice (sQ g1) 2 c1], .bool false] w _
 rw [<- hs]
 have HM := sK hM
 have HG := sK hg
 have i0 := sK t0
 have l1 := sK o1
 unfold Ia
 clear hM hg t0 hs hv o1 n1
 go_enter Tryz.func140, Tryz.ntmps140
 go_upto_region 1 with fail
 obtain ⟨W, hW, i1, b0, l0, m0, c0⟩ := mk3 w #[.map (some bt)] 137 #[.int .i64 3, .string s, zQ, eQ, .slice (sQ g1) 2 c1] 40 #[.string { data := #[] }, .nilFunc, .nilFunc] 189
 rw [hW]
 clear hW
 have d1 := sK b0
 have o0 := HM.kept (Aw b0 none) (by simp)
 have k0 := l0.t1
 obtain ⟨x0, x1, x2, x3, x4⟩ := m0.t5
 obtain ⟨r0, r1, r2⟩ := c0.t3
 obtain ⟨u0, u1, u2⟩ := c0.u3
 have w0 := ((HG.from b0).cell 0).trans q1
 have z0 := ((HG.from b0).cell 1).trans s1
 have a1 := ((HG.from b0).cell 2).trans w1
 have e1 := sK c0
 have i2 : w.heap.size + 1 + 1 < W.heap.size := by omega
 clear l0 m0 c0 b0 i1 q1 s1 w1
 go_wp2_with (at_lookup; refine Fw _ rfl _ _ 134 rfl 9 195 Tryz.underlying9 Tryz.underlying134 (eQ) (Tryz.zeroValue195 _) bt n ft rfl o0 s rfl k1 ?_; rw [hk])
 refine wp_loop_rounds 1 ?_
 rw [rounds_succ]
 go_upto_region 9 with fail
 obtain ⟨W5, q0, h1, e0, d0⟩ := mk1 W #[.string { data := #[70, 78] }, .func (Fn.func 289) #[] #[pQ b1], .func (Fn.func 199) #[] #[]] 189
 rw [q0]
 clear q0
 have g0 := sK (Aa e0 d1.out)
 have a0 := e1.below e0
 have f1 := sK a0
 have j0 := sK (i0.from g0.out)
 have m1 := sK (l1.from g0.out)
 clear r0 r1 r2 u0 u1 u2
 have r0 := a0.t1
 have u0 := a0.free 0
 have y0 := d0.t1
 obtain ⟨-, r1⟩ := a0.t2
 have u1 := a0.free 1
 obtain ⟨-, y1⟩ := d0.t2
 obtain ⟨-, -, r2⟩ := a0.t3
 have u2 := a0.free 2
 obtain ⟨-, -, y2⟩ := d0.t3
 have j2 := (e0.cell (p := ⟨w.heap.size + 1, 4, none⟩) (by show w.heap.size + 1 < W.heap.size; omega)).trans x4
 clear a0 d0 e0 h1 x0 x1 x2 x3 x4 k0 w0 z0 a1 o0
 go_wp2
 have f0 := ((f1.set 0 (.string { data := #[70, 78] })).set 1 (.func (Fn.func 289) #[] #[pQ b1])).set 2 (.func (Fn.func 199) #[] #[])
 simp only [qj, qo, qp] at f0
 have h0 := ((Ad W5 (w.heap.size + 1 + 1) 0 (.string { data := #[70, 78] })).trans (Ad _ (w.heap.size + 1 + 1) 1 (.func (Fn.func 289) #[] #[pQ b1]))).trans (Ad _ (w.heap.size + 1 + 1) 2 (.func (Fn.func 199) #[] #[]))
 have n0 := ((g0.setCell (p := ⟨w.heap.size + 1 + 1, 0, none⟩) (by simp <;> omega) (.string { data := #[70, 78] })).setCell (p := ⟨w.heap.size + 1 + 1, 1, none⟩) (by simp <;> omega) (.func (Fn.func 289) #[] #[pQ b1])).setCell (p := ⟨w.heap.size + 1 + 1, 2, none⟩) (by simp <;> omega) (.func (Fn.func 199) #[] #[])
 obtain ⟨Z, hZ⟩ := xQ ((((W5.setCell ⟨w.heap.size + 1 + 1, 0, none⟩ (.string { data := #[70, 78] })).setCell ⟨w.heap.size + 1 + 1, 1, none⟩ (.func (Fn.func 289) #[] #[pQ b1])).setCell ⟨w.heap.size + 1 + 1, 2, none⟩ (.func (Fn.func 199) #[] #[])))
 rw [<- hZ] at f0 h0 n0 ⊢
 clear hZ
 obtain ⟨v0, v1, v2⟩ := f0.t3
 have z1 := (qg.1 i0.out).1
 have j1 := (h0.block _ (qg.1 j0.out).1 (by simp; omega)).trans j0.out
 have l2 := (qg.1 l1.out).1
 have a2 := (h0.block _ (qg.1 m1.out).1 (by simp; omega)).trans m1.out
 refine bodyPost_ret (v := .tuple #[.agg #[.string { data := #[70, 78] }, .func (Fn.func 289) #[] #[pQ b1], .func (Fn.func 199) #[] #[]], zQ]) (by simp [results, Tryz.results140, go_sem, v0, v1, v2]) rfl ⟨b1, b2, rfl, ⟨j1, a2⟩, n0⟩
end Go.Proofs.YtoalkldfhkabnaaGreatDoor
