/- Part of WholeTraces. -/
import Derived.Deep.RegionHeldLaw
import Derived.Test.YtoalkldfhkabnaaGreatDoorW00
import Derived.Test.YtoalkldfhkabnaaGreatDoorW10
import Derived.Test.YtoalkldfhkabnaaGreatDoorW27
import Derived.Test.YtoalkldfhkabnaaGreatDoorW29
import Derived.Test.YtoalkldfhkabnaaGreatDoorW31
set_option linter.all false
set_option maxRecDepth 10000
set_option maxHeartbeats 16000000
namespace Go.Proofs.YtoalkldfhkabnaaGreatDoor
open Go.RowKit Fq
def An (w : WQ) (p t : Nat) (cs : Array Value) : Prop := w.heap[p]? = some (.cells cs t (0, 0))
theorem An.from {w w' : WQ} {p t : Nat} {cs : Array Value} (h : An w p t cs) (hb : From w w') : An w' p t cs := by
 have hl : p < w.heap.size := (qg.1 h).1
 exact (hb.block p hl).trans h
theorem An.ok {w w' : WQ} {p t b : Nat} {cs : Array Value} (h : An w p t cs) (hk : Lib.OthersKept 5 (some b) w w') (hp : p ≠ b) (ht : t ≠ 5) : An w' p t cs := hk p _ h (by simpa using hp) (fun c fz e => by simp only [Obj.cells.injEq] at e; exact ht e.2.1)
theorem An.cell {w : WQ} {p t : Nat} {cs : Array Value} (h : An w p t cs) (j : Nat) : w.cell? ⟨p, j, none⟩ = cs[j]? := qbj h j
theorem An.new (w : WQ) (cs : Array Value) (t : Nat) : An (w.alloc (.cells cs t)) w.heap.size t cs := (MapKept.heap_alloc w _).1
def Fb (b B m : Nat) (w : WQ) (bs : VQ) (e : Ending) (w' : WQ) : Prop :=
 (∃ v, e = .returned v) ∧ ∃ l : VQ, l.length <= m ∧ Lib.IsBuilderF 80 5 B b (bs ++ l) w' ∧ Below B w w' ∧ Lib.OthersKept 5 (some b) w w'
theorem hmf : ∀ (fn : Fn) (first cap : Array Value) (w : WQ), (Instr.makeFunc fn first cap).run Tryz.prog w = .ok (.func fn first cap) w := fun _ _ _ _ => rfl
theorem qR {b B : Nat} {bs : VQ} {w : WQ} (h : Lib.IsBuilderF 80 5 B b bs w) : B <= b ∧ b < w.heap.size := by
 rcases h with h | h
 ·exact ⟨h.1, h.lt⟩
 ·exact ⟨h.1, h.lt⟩
theorem Ty (b B : Nat) (w : WQ) (bs : VQ) (h : Lib.IsBuilderF 80 5 B b bs w) : cQ 85 #[pQ b] w (Ba (.int .i64 bs.length) w) := (Tryz.Builder_Len_f B b bs w h).mono fun _ _ h => ⟨h.1, h.2.symm⟩
theorem nT (n : Nat) (hn : n < 100) (w : WQ) : cQ 88 #[.int .i64 n] w (Ba (.string ⟨(Lib.decDigits n).toArray⟩) w) := (Tryz.strconv_Itoa_small n hn w).mono fun _ _ h => ⟨h.1, h.2.symm⟩
theorem iQ (b B : Nat) (w : WQ) (bs : VQ) (n : Nat) (hn : n < 100) (hd : (Lib.decDigits n).length <= 2) (hB : Lib.IsBuilderF 80 5 B b bs w) (hl : bs.length <= 5000) : cQ 42 #[pQ b, numV n] w (Fb b B 2 w bs) := by
 have o2 := qR hB
 have HD : Hid ((⟨(Lib.decDigits n).toArray⟩ : ByteArray).size <= 2) := sK hd
 have HI := sK fun (wx : WQ) => nT n hn wx
 have y2 : ¬ (65536 : Int) < (bs.length : Int) := by omega
 have HB := sK hB
 have hmf := hmf
 clear hB hn hd
 generalize (⟨(Lib.decDigits n).toArray⟩ : ByteArray) = s at *
 unfold Fb
 go_enter Tryz.func42, Tryz.ntmps42
 go_upto_region 1 with fail
 obtain ⟨W, hW⟩ := xQ ((w.alloc (.cells #[pQ b] 77)).alloc (.cells #[.int .i64 1, .string { data := #[] }, nQ n, eQ, eQ] 40))
 have h2 : An W w.heap.size 77 #[pQ b] := by rw [hW]; exact (An.new w _ _).from (Ac _ _)
 have h3 : An W (w.heap.size + 1) 40 #[.int .i64 1, .string { data := #[] }, nQ n, eQ, eQ] := by
  rw [hW]; have h9 := An.new (w.alloc (.cells #[pQ b] 77)) #[.int .i64 1, .string { data := #[] }, nQ n, eQ, eQ] 40; simpa using h9
 have m0 : Lib.IsBuilderF 80 5 B b bs W := by rw [hW]; exact (HB.alloc _).alloc _
 have j1 : Lib.OthersKept 5 (some b) w W := by rw [hW]; exact ((Lib.OthersKept.refl _ _ _).alloc _).alloc _
 have v0 : From w W := by rw [hW]; exact Aa (Ac _ _) (Ac _ _)
 rw [<- hW]
 have n2 := sK m0
 have u1 := sK j1
 have t1 := sK v0
 have v1 := sK (Ty b B W bs m0)
 have k2 : B <= W.heap.size := by have := v0.size; omega
 have d2 := sK (Tryz.Builder_WriteString_k B b bs s W.drew m0 (by have := HD.out; omega) k2)
 have p0 := h2.cell 0
 have q0 := h3.cell 0
 have q2 := h3.cell 2
 simp at p0 q0 q2
 have H2 := sK h2
 have H3 := sK h3
 clear hW m0 j1 v0 h2 h3 HB
 go_upto_region 5 with (go_at_call 85; refine v1.mono ?_; rintro e w' ⟨rfl, rfl⟩)
 have i2 : W.drew.cell? ⟨w.heap.size, 0, none⟩ = some (pQ b) ∧ W.drew.cell? ⟨w.heap.size + 1, 2, none⟩ = some (nQ n) := ⟨p0, q2⟩
 go_region_held_law (fun w' => w'.cell? ⟨w.heap.size, 0, none⟩ = some (pQ b) ∧ w'.cell? ⟨w.heap.size + 1, 2, none⟩ = some (nQ n)) (first | exact i2 | exact j2)
  (first
   | (go_at_call 88; refine (HI _).mono ?_; rintro e w' ⟨rfl, rfl⟩)
   | (go_at_call 87; refine d2.mono ?_; rintro e w9 ⟨rfl, d0, f0, c0⟩; have j2 : w9.cell? ⟨w.heap.size, 0, none⟩ = some (pQ b) ∧ w9.cell? ⟨w.heap.size + 1, 2, none⟩ = some (nQ n) := ⟨(An.ok H2 c0 (by omega) (by decide)).cell 0, (An.ok H3 c0 (by omega) (by decide)).cell 2⟩))
 go_end0
 exact ⟨⟨_, rfl⟩, Lib.strCells s, by rw [Lib.strCells_length]; exact HD.out, .inr d0, ((qf t1 (by omega)).drew).trans f0, u1.drew.trans c0⟩
def RowT (w : WQ) (g : Nat) (vs : VQ) : Prop := ∃ (b0 : Array Value) (fz : Nat × Nat), w.heap[g]? = some (.cells b0 40 fz) ∧ ∀ (j : Nat) (u : Value), vs[j]? = some u -> b0[j]? = some u
theorem RowT.cell {w : WQ} {g : Nat} {vs : VQ} (h : RowT w g vs) {j : Nat} {u : Value} (hu : vs[j]? = some u) : w.cell? ⟨g, j, none⟩ = some u := by
 obtain ⟨b0, fz, h1, h2⟩ := h
 rw [qbj h1 j]; exact h2 j u hu
theorem RowT.ok {w w' : WQ} {g b : Nat} {vs : VQ} (h : RowT w g vs) (hk : Lib.OthersKept 5 (some b) w w') (hg : g ≠ b) : RowT w' g vs := by
 obtain ⟨b0, fz, h1, h2⟩ := h
 exact ⟨b0, fz, hk g _ h1 (by simpa using hg) (fun c fz e => by simp only [Obj.cells.injEq] at e; exact absurd e.2.1 (by decide)), h2⟩
theorem RowT.from {w w' : WQ} {g : Nat} {vs : VQ} (h : RowT w g vs) (hb : From w w') : RowT w' g vs := by
 obtain ⟨b0, fz, h1, h2⟩ := h
 exact ⟨b0, fz, (hb.block g (qg.1 h1).1).trans h1, h2⟩
theorem RowT.of {w : WQ} {B g n c : Nat} {vs : VQ} (h : w.ownsRow B 40 5 (.slice (sQ g) n c) n vs) : RowT w g vs ∧ n <= c ∧ c <= maxLen ∧ B <= g := by
 rcases h.2 with ⟨e, _⟩ | ⟨g', cap, b0, e, hB, h1, h3, h4, h5, h6⟩
 ·cases e
 ·simp only [qm, qc, qd, and_true, true_and] at e
  obtain ⟨rfl, rfl⟩ := e; refine ⟨⟨b0, _, h1, fun j u hj => ?_⟩, h3, h4, hB⟩; rw [<- h6, List.getElem?_take] at hj; split at hj
  ·simpa using hj
  ·cases hj
theorem He {b : Option Nat} {w w' : WQ} (h : From w w') : Lib.OthersKept 5 b w w' := fun k o hk _ _ => (h.block k (qg.1 hk).1).trans hk
theorem Fb.from {b B m : Nat} {w w1 w' : WQ} {bs : VQ} {e : Ending} (h : Fb b B m w1 bs e w') (hb : From w w1) (hB : B <= w.heap.size) : Fb b B m w bs e w' := by
 obtain ⟨h1, l, h2, h3, h4, h5⟩ := h
 exact ⟨h1, l, h2, h3, (qf hb hB).trans h4, (He hb).trans h5⟩
theorem pB (b B m : Nat) (w : WQ) (bs : VQ) (t2 x3 : Nat) (s : ByteArray) (g n c : Nat) (vs : VQ) (h2 : An w t2 77 #[pQ b]) (h3 : An w x3 40 #[.int .i64 3, .string s, zQ, eQ, .slice (sQ g) n c]) (hr : RowT w g vs) (j : Nat) (hj : j < n) (hn : n <= c) (hc : c <= maxLen)
  (a0 a1 a2 a3 a4 : Value) (e0 : vs[j * 5]? = some a0) (e1 : vs[j * 5 + 1]? = some a1) (e2 : vs[j * 5 + 2]? = some a2) (e3 : vs[j * 5 + 3]? = some a3) (e4 : vs[j * 5 + 4]? = some a4) (HW : ∀ wx, From w wx -> cQ 42 #[pQ b, .agg #[a0, a1, a2, a3, a4]] wx (Fb b B m wx bs)) (hBw : B <= w.heap.size) :
  cQ 91 #[nQ j, pQ t2, pQ x3] w (Fb b B m w bs) := by
 have c2 := sK HW
 have HS : Hid (∀ wx, From w wx -> wx.cell? ⟨t2, 0, none⟩ = some (pQ b) ∧ wx.cell? ⟨x3, 4, none⟩ = some (.slice (sQ g) n c) ∧ wx.cell? ⟨g, j * 5, none⟩ = some a0 ∧ wx.cell? ⟨g, j * 5 + 1, none⟩ = some a1 ∧ wx.cell? ⟨g, j * 5 + 2, none⟩ = some a2 ∧ wx.cell? ⟨g, j * 5 + 3, none⟩ = some a3 ∧ wx.cell? ⟨g, j * 5 + 4, none⟩ = some a4) := sK fun wx hk =>
  ⟨(h2.from hk).cell 0, (h3.from hk).cell 4, (hr.from hk).cell e0, (hr.from hk).cell e1, (hr.from hk).cell e2, (hr.from hk).cell e3, (hr.from hk).cell e4⟩
 have x2 : (j : Int) < (n : Int) := by omega
 unfold maxLen at hc
 have x1 : Hid (∀ wx, From w wx -> ∀ e w', Fb b B m wx bs e w' -> Fb b B m w bs e w') := sK fun wx hx e w' h => h.from hx hBw
 clear HW h2 h3 hr e0 e1 e2 e3 e4
 go_enter Tryz.func91, Tryz.ntmps91
 have f2 : From w w := From.refl w
 refine wpT 6 11 [.v (pQ b), .v (.pointer (some ⟨x3, 4, none⟩)), .v (.slice (sQ g) n c), .v (nQ j), .v (.pointer (some ⟨g, j * 5, none⟩)), .v (.agg #[a0, a1, a2, a3, a4])] w (by kernel_rfl) (by kernel_rfl) (by kernel_rfl) rfl (From.drew f2) ?_
 simp only [Tk]
 iterate 6 (refine .z (fun wx hx _ hK => by first | (go_simp; exact Kz hK) | (have l1 := (HS wx hx).1; go_simp; exact Kz hK) | (have l1 := (HS wx hx).2.1; go_simp; exact Kz hK) | (obtain ⟨_, _, l1, p2, r2, s2, u2⟩ := HS wx hx; go_simp; exact Kz hK)) ?_; simp only [Pt])
 refine .nil fun w1 m2 _ => ?_
 have f1 := sK m2
 go_wp2_with (go_at_call 42; refine (c2 w1 f1.out).mono ?_; intro e w9 g2; obtain ⟨⟨v, rfl⟩, l2⟩ := g2)
 go_end0
 exact x1 w1 f1 _ _ ⟨⟨_, rfl⟩, l2⟩
theorem jH {b B : Nat} {w w' : WQ} {bs : VQ} (h : Lib.IsBuilderF 80 5 B b bs w) (hb : From w w') : Lib.IsBuilderF 80 5 B b bs w' := by
 have key : ∀ {p : Value}, Lib.BuilderAtF 80 5 B b p bs w -> Lib.BuilderAtF 80 5 B b p bs w' := fun {p} h => by
  obtain ⟨h1, v, h2, h3, h4⟩ := h; refine ⟨h1, v, (hb.block b (qg.1 h2).1).trans h2, h3.kept (Aw hb none) ?_, h4⟩
  cases v.ownBlock <;> simp
 exact h.elim (fun x => .inl (key x)) (fun x => .inr (key x))
theorem kS (b B m : Nat) (w : WQ) (bs : VQ) (t2 x3 n : Nat) (hn : n <= 10) (h2 : An w t2 77 #[pQ b]) (ht2 : t2 ≠ b) (hB : Lib.IsBuilderF 80 5 B b bs w) (hBw : B <= w.heap.size) (K : Nat) (hK : K <= 3000) (hl : bs.length <= K) (hm : m <= 50)
  (HO : ∀ j, j < n -> ∀ wx bs', Below B w wx -> Lib.OthersKept 5 (some b) w wx -> Lib.IsBuilderF 80 5 B b bs' wx -> bs'.length <= K + 1000 -> cQ 91 #[nQ j, pQ t2, pQ x3] wx (Fb b B m wx bs')) :
  cQ 86 #[nQ n, .func (Fn.func 91) #[] #[pQ t2, pQ x3], pQ t2] w (Fb b B (n * (m + 2)) w bs) := by
 have c1 := sK HO
 have H2 := sK h2
 have s1 := sK hB
 unfold Fb at *
 clear HO h2 hB
 go_enter Tryz.func86, Tryz.ntmps86
 go_wp2
 go_loopw [7] (fun z0 wr => ∃ (i : Nat) (l : VQ), i <= n ∧ z0 = nQ i ∧ l.length <= i * (m + 2) ∧ Lib.IsBuilderF 80 5 B b (bs ++ l) wr ∧ Below B w wr ∧ Lib.OthersKept 5 (some b) w wr) (fun z0 _ => n - (intOf z0).toNat)
 case atStart => exact ⟨0, [], qe _, rfl, by simp, by simpa using s1.out, bR, Lib.OthersKept.refl _ _ _⟩
 case round =>
  obtain ⟨i, l, hi, rfl, o1, i1, w0, x0⟩ := hrel; have n1 : i * (m + 2) <= 10 * 52 := qbx (by omega) (by omega); have z2 := w0.size; have o0 := sK i1; have j0 := sK w0; have l0 := sK x0; have q1 : (i + 1) * (m + 2) = i * (m + 2) + (m + 2) := Nat.succ_mul _ _; have z1 := sK q1; have g0 := sK o1; have t0 := sK n1; have p0 := (An.ok H2 x0 ht2 (by decide)).cell 0; simp at p0; clear i1 w0 x0 q1 o1 n1
  by_cases hin : i < n
  ·have v2 : (i : Int) < (n : Int) := by omega
   by_cases hi0 : i = 0
   ·subst hi0
    have HC := sK (c1.out 0 hin wr (bs ++ l) j0 l0 o0 (by have := g0.out; have := t0.out; simp; omega)); clear p0; go_wp2_with (go_at_call 91; refine HC.mono ?_; rintro e w9 ⟨⟨v, rfl⟩, l9, i0, d0, f0, c0⟩); have n0 := sK d0; have h0 := sK (And.intro f0 c0); have r0 := sK i0; clear d0 f0 c0 i0; go_wp2; go_roundw
    case rel => exact ⟨1, l ++ l9, by omega, by go_num, by have := r0.out; have := g0.out; simp; omega, by rw [<- qap]; exact n0.out, j0.trans h0.out.1, l0.trans h0.out.2⟩
    case measure => simp [intOf]; omega
   ·have w2 : (0 : Int) < (i : Int) := by omega
    have HW := sK (Tryz.Builder_WriteString_k B b (bs ++ l) { data := #[44, 32] } wr o0 (by have := g0.out; have := t0.out; simp [ByteArray.size]; omega) (by omega)); go_upto_region 5 with (go_at_call 87; refine HW.mono ?_; rintro e w8 ⟨rfl, g1, k1, m1⟩)
    have r1 : Hid (Lib.IsBuilderF 80 5 B b (bs ++ l ++ Lib.strCells { data := #[44, 32] }) w8) := sK (.inr g1); have b1 := sK (j0.trans k1); have d1 := sK (l0.trans m1); have y0 : (Lib.strCells ({ data := #[44, 32] } : ByteArray)).length = 2 := by rw [Lib.strCells_length]; rfl
    have y1 := sK y0; have HC := sK (c1 i hin w8 _ b1 d1 r1 (by have := g0.out; have := t0.out; simp [y0]; omega)); clear g1 k1 m1 p0 y0 HW; go_wp2_with (go_at_call 91; refine HC.mono ?_; rintro e w9 ⟨⟨v, rfl⟩, l9, i0, d0, f0, c0⟩); have n0 := sK d0; have h0 := sK (And.intro f0 c0); have r0 := sK i0; clear d0 f0 c0 i0; go_wp2; go_roundw
    case rel => exact ⟨i + 1, l ++ (Lib.strCells { data := #[44, 32] } ++ l9), by omega, by go_num, by have := r0.out; have := g0.out; have := z1.out; have := y1.out; simp; omega, by have := n0.out; simpa [qap] using this, b1.trans h0.out.1, d1.trans h0.out.2⟩
    case measure => simp [intOf]; omega
  ·obtain rfl : i = n := by omega
   clear p0; go_wp2; go_end0; exact ⟨⟨_, rfl⟩, l, g0.out, o0.out, j0.out, l0.out⟩
def RowC (w0 w : WQ) (a : ByteArray) (fn : Nat) (t : Nat) (F L v : Value) : Prop := ∃ b, v = .agg #[.string a, .func (Fn.func fn) #[] #[pQ b], L] ∧ An w b t #[F] ∧ w0.heap.size <= b
def Ez (a : ByteArray) (fn t : Nat) (F L : Value) (w : WQ) (e : Ending) (w' : WQ) : Prop := ∃ v, e = .returned v ∧ RowC w w' a fn t F L v ∧ From w w'
theorem Bz : ∀ (fn : Fn) (x c : Array Value) (a : Addr) (w : WQ), (store a (.func fn x c)).run Tryz.prog w = match w.cell? a with
   | some _ => if w.frozen? a then .halt (.unsupported (.unsafePointer "a write to bytes that a string shares")) w else .ok () (w.setCell a (.func fn x c))
   | none => match w.farStore Tryz.prog a (.func fn x c) (Mode.plain == .atomic) with
    | .ok (w', _) => .ok () w'
    | .error h => .halt h w := fun _ _ _ _ _ => run_store _ _ _ _ _ rfl
theorem Du : ∀ (a : Addr) (w : WQ), (store a .nilFunc).run Tryz.prog w = match w.cell? a with
   | some _ => if w.frozen? a then .halt (.unsupported (.unsafePointer "a write to bytes that a string shares")) w else .ok () (w.setCell a .nilFunc)
   | none => match w.farStore Tryz.prog a .nilFunc (Mode.plain == .atomic) with
    | .ok (w', _) => .ok () w'
    | .error h => .halt h w := fun _ _ => run_store _ _ _ _ _ rfl
theorem set3 {w w5 : WQ} {b : Nat} {x y z A G F : Value} (h : Blk w5 b #[x, y, z]) (hF : From w w5) (hb : w.heap.size <= b) :
  ∃ Z, ((w5.setCell ⟨b, 0, none⟩ A).setCell ⟨b, 1, none⟩ G).setCell ⟨b, 2, none⟩ F = Z ∧ Blk Z b #[A, G, F] ∧ w5.grownBy Z (some b) ∧ From w Z :=
 ⟨_, rfl, by have h9 := ((h.set 0 A).set 1 G).set 2 F; simpa using h9, ((Ad w5 b 0 A).trans (Ad _ b 1 G)).trans (Ad _ b 2 F), ((hF.setCell (p := ⟨b, 0, none⟩) hb A).setCell (p := ⟨b, 1, none⟩) hb G).setCell (p := ⟨b, 2, none⟩) hb F⟩
theorem Da (w : WQ) (a : ByteArray) (f1 f2 : Fn) (k1 k2 : Array Value) : cQ 193 #[.string a, .func f1 #[] k1, .func f2 #[] k2] w (Ez a 289 236 (.func f1 #[] k1) (.func f2 #[] k2) w) := by
 have hmf := hmf
 have m0 := Bz
 unfold Ez RowC
 go_enter Tryz.func193, Tryz.ntmps193
 go_upto_region 1 with fail
 obtain ⟨W, hW⟩ := xQ ((w.alloc (.cells #[.func f1 #[] k1] 236)).alloc (.cells #[.string { data := #[] }, .nilFunc, .nilFunc] 189))
 have h2 : An W w.heap.size 236 #[.func f1 #[] k1] := by rw [hW]; exact (An.new w _ _).from (Ac _ _)
 have h3 : Blk W (w.heap.size + 1) #[.string { data := #[] }, .nilFunc, .nilFunc] := by
  rw [hW]; have h9 := Blk.new (w.alloc (.cells #[.func f1 #[] k1] 236)) #[.string { data := #[] }, .nilFunc, .nilFunc] 189; simpa using h9
 have b0 : From w W := by rw [hW]; exact Aa (Ac _ _) (Ac _ _)
 rw [<- hW]
 have H2 := sK h2
 have H3 := sK h3
 have HF := sK b0
 obtain ⟨c0, c1, c2⟩ := h3.t3
 have u0 := h3.free 0
 have u1 := h3.free 1
 have u2 := h3.free 2
 clear hW h2 h3 b0
 go_wp2
 have f0 := ((H3.set 0 (.string a)).set 1 (.func (Fn.func 289) #[] #[pQ w.heap.size])).set 2 (.func f2 #[] k2)
 simp only [qj, qo, qp] at f0
 have hg := ((Ad W (w.heap.size + 1) 0 (.string a)).trans (Ad _ (w.heap.size + 1) 1 (.func (Fn.func 289) #[] #[pQ w.heap.size]))).trans (Ad _ (w.heap.size + 1) 2 (.func f2 #[] k2))
 have g0 := ((HF.setCell (p := ⟨w.heap.size + 1, 0, none⟩) (by simp) (.string a)).setCell (p := ⟨w.heap.size + 1, 1, none⟩) (by simp) (.func (Fn.func 289) #[] #[pQ w.heap.size])).setCell (p := ⟨w.heap.size + 1, 2, none⟩) (by simp) (.func f2 #[] k2)
 obtain ⟨Z, hZ⟩ := xQ ((((W.setCell ⟨w.heap.size + 1, 0, none⟩ (.string a)).setCell ⟨w.heap.size + 1, 1, none⟩ (.func (Fn.func 289) #[] #[pQ w.heap.size])).setCell ⟨w.heap.size + 1, 2, none⟩ (.func f2 #[] k2)))
 rw [<- hZ] at f0 hg g0 ⊢
 clear hZ
 obtain ⟨v0, v1, v2⟩ := f0.t3
 have hc : An Z w.heap.size 236 #[.func f1 #[] k1] := (hg.block w.heap.size (qg.1 H2.out).1 (by simp)).trans H2.out
 refine bodyPost_ret (v := .agg #[.string a, .func (Fn.func 289) #[] #[pQ w.heap.size], .func f2 #[] k2]) (by simp [results, Tryz.results193, go_sem, v0, v1, v2]) rfl ⟨_, rfl, ⟨_, rfl, hc, qb _⟩, g0⟩
def Dm (a : ByteArray) (fn t : Nat) (F L : Value) (w : WQ) (e : Ending) (w' : WQ) : Prop := ∃ b1 b2, e = .returned (.agg #[.string a, .func (Fn.func 289) #[] #[pQ b1], L]) ∧ An w' b1 236 #[.func (Fn.func fn) #[] #[pQ b2]] ∧ An w' b2 t #[F] ∧ w.heap.size <= b1 ∧ w.heap.size <= b2 ∧ From w w'
theorem dT (w : WQ) (f1 f2 : Fn) (k1 k2 : Array Value) : cQ 189 #[.func f1 #[] k1, .func f2 #[] k2] w (Dm { data := #[70, 78] } 287 234 (.func f1 #[] k1) (.func f2 #[] k2) w) := by
 have hmf := hmf
 have m0 := Bz
 have i0 := sK fun (wx : WQ) (l0 : Array Value) => Da wx { data := #[70, 78] } (Fn.func 287) f2 l0 k2
 unfold Ez RowC at i0
 unfold Dm
 go_enter Tryz.func189, Tryz.ntmps189
 go_upto_region 1 with fail
 obtain ⟨W, hW⟩ := xQ ((w.alloc (.cells #[.func f1 #[] k1] 234)).alloc (.cells #[.string { data := #[] }, .nilFunc, .nilFunc] 189))
 have h2 : An W w.heap.size 234 #[.func f1 #[] k1] := by rw [hW]; exact (An.new w _ _).from (Ac _ _)
 have h3 : Blk W (w.heap.size + 1) #[.string { data := #[] }, .nilFunc, .nilFunc] := by
  rw [hW]; have h9 := Blk.new (w.alloc (.cells #[.func f1 #[] k1] 234)) #[.string { data := #[] }, .nilFunc, .nilFunc] 189; simpa using h9
 have b0 : From w W := by rw [hW]; exact Aa (Ac _ _) (Ac _ _)
 rw [<- hW]
 have H2 := sK h2
 have H3 := sK h3
 have HF := sK b0
 clear hW h2 h3 b0
 go_wp2_with (go_at_call 193; refine (i0 W _).mono ?_; rintro e w5 ⟨v, rfl, ⟨b1, rfl, a0, j0⟩, e0⟩; have h9 := H3.below e0; have c0 := h9.c0; have c1 := h9.c1; have c2 := h9.c2; have u0 := h9.free 0; have u1 := h9.free 1; have u2 := h9.free 2; have h0 := sK a0; have d0 := sK e0; have HH := sK j0; have H9 := sK h9; clear a0 e0 j0 h9)
 obtain ⟨Z, hZ, f0, hg, g0⟩ := set3 (A := (.string { data := #[70, 78] })) (G := (.func (Fn.func 289) #[] #[pQ b1])) (F := (.func f2 #[] k2)) H9 (Aa d0 HF.out) (by simp)
 rw [hZ]
 clear hZ
 obtain ⟨v0, v1, v2⟩ := f0.t3
 have n0 := H3.lt
 have hH := HH.out
 have hc : An Z w.heap.size 234 #[.func f1 #[] k1] := (hg.block w.heap.size (qg.1 (H2.from d0.out)).1 (by simp)).trans (H2.from d0.out)
 have a0 : An Z b1 236 #[.func (Fn.func 287) #[] #[pQ w.heap.size]] := (hg.block b1 (qg.1 h0.out).1 (by simp; omega)).trans h0.out
 refine bodyPost_ret (v := .agg #[.string { data := #[70, 78] }, .func (Fn.func 289) #[] #[pQ b1], .func f2 #[] k2]) (by simp [results, Tryz.results189, go_sem, v0, v1, v2]) rfl ⟨_, _, rfl, a0, hc, by have := HF.size; omega, qb _, g0⟩
theorem Up (w : WQ) (f1 f2 : Fn) (k1 k2 : Array Value) : cQ 228 #[.func f1 #[] k1, .func f2 #[] k2] w (Dm { data := #[67] } 310 35 (.func f1 #[] k1) (.func f2 #[] k2) w) := by
 have hmf := hmf
 have m0 := Bz
 have i0 := sK fun (wx : WQ) (l0 : Array Value) => Da wx { data := #[67] } (Fn.func 310) f2 l0 k2
 unfold Ez RowC at i0
 unfold Dm
 go_enter Tryz.func228, Tryz.ntmps228
 go_upto_region 1 with fail
 obtain ⟨W, hW⟩ := xQ ((w.alloc (.cells #[.func f1 #[] k1] 35)).alloc (.cells #[.string { data := #[] }, .nilFunc, .nilFunc] 189))
 have h2 : An W w.heap.size 35 #[.func f1 #[] k1] := by rw [hW]; exact (An.new w _ _).from (Ac _ _)
 have h3 : Blk W (w.heap.size + 1) #[.string { data := #[] }, .nilFunc, .nilFunc] := by
  rw [hW]; have h9 := Blk.new (w.alloc (.cells #[.func f1 #[] k1] 35)) #[.string { data := #[] }, .nilFunc, .nilFunc] 189; simpa using h9
 have b0 : From w W := by rw [hW]; exact Aa (Ac _ _) (Ac _ _)
 rw [<- hW]
 have H2 := sK h2
 have H3 := sK h3
 have HF := sK b0
 clear hW h2 h3 b0
 go_wp2_with (go_at_call 193; refine (i0 W _).mono ?_; rintro e w5 ⟨v, rfl, ⟨b1, rfl, a0, j0⟩, e0⟩; have h9 := H3.below e0; have c0 := h9.c0; have c1 := h9.c1; have c2 := h9.c2; have u0 := h9.free 0; have u1 := h9.free 1; have u2 := h9.free 2; have h0 := sK a0; have d0 := sK e0; have HH := sK j0; have H9 := sK h9; clear a0 e0 j0 h9)
 obtain ⟨Z, hZ, f0, hg, g0⟩ := set3 (A := (.string { data := #[67] })) (G := (.func (Fn.func 289) #[] #[pQ b1])) (F := (.func f2 #[] k2)) H9 (Aa d0 HF.out) (by simp)
 rw [hZ]
 clear hZ
 obtain ⟨v0, v1, v2⟩ := f0.t3
 have n0 := H3.lt
 have hH := HH.out
 have hc : An Z w.heap.size 35 #[.func f1 #[] k1] := (hg.block w.heap.size (qg.1 (H2.from d0.out)).1 (by simp)).trans (H2.from d0.out)
 have a0 : An Z b1 236 #[.func (Fn.func 310) #[] #[pQ w.heap.size]] := (hg.block b1 (qg.1 h0.out).1 (by simp; omega)).trans h0.out
 refine bodyPost_ret (v := .agg #[.string { data := #[67] }, .func (Fn.func 289) #[] #[pQ b1], .func f2 #[] k2]) (by simp [results, Tryz.results228, go_sem, v0, v1, v2]) rfl ⟨_, _, rfl, a0, hc, by have := HF.size; omega, qb _, g0⟩
theorem Xz (w : WQ) (f1 f2 : Fn) (k1 k2 : Array Value) : cQ 231 #[.func f1 #[] k1, .func f2 #[] k2] w (Dm { data := #[67, 76] } 311 255 (.func f1 #[] k1) (.func f2 #[] k2) w) := by
 have hmf := hmf
 have m0 := Bz
 have i0 := sK fun (wx : WQ) (l0 : Array Value) => Da wx { data := #[67, 76] } (Fn.func 311) f2 l0 k2
 unfold Ez RowC at i0
 unfold Dm
 go_enter Tryz.func231, Tryz.ntmps231
 go_upto_region 1 with fail
 obtain ⟨W, hW⟩ := xQ ((w.alloc (.cells #[.func f1 #[] k1] 255)).alloc (.cells #[.string { data := #[] }, .nilFunc, .nilFunc] 189))
 have h2 : An W w.heap.size 255 #[.func f1 #[] k1] := by rw [hW]; exact (An.new w _ _).from (Ac _ _)
 have h3 : Blk W (w.heap.size + 1) #[.string { data := #[] }, .nilFunc, .nilFunc] := by
  rw [hW]; have h9 := Blk.new (w.alloc (.cells #[.func f1 #[] k1] 255)) #[.string { data := #[] }, .nilFunc, .nilFunc] 189; simpa using h9
 have b0 : From w W := by rw [hW]; exact Aa (Ac _ _) (Ac _ _)
 rw [<- hW]
 have H2 := sK h2
 have H3 := sK h3
 have HF := sK b0
 clear hW h2 h3 b0
 go_wp2_with (go_at_call 193; refine (i0 W _).mono ?_; rintro e w5 ⟨v, rfl, ⟨b1, rfl, a0, j0⟩, e0⟩; have h9 := H3.below e0; have c0 := h9.c0; have c1 := h9.c1; have c2 := h9.c2; have u0 := h9.free 0; have u1 := h9.free 1; have u2 := h9.free 2; have h0 := sK a0; have d0 := sK e0; have HH := sK j0; have H9 := sK h9; clear a0 e0 j0 h9)
 obtain ⟨Z, hZ, f0, hg, g0⟩ := set3 (A := (.string { data := #[67, 76] })) (G := (.func (Fn.func 289) #[] #[pQ b1])) (F := (.func f2 #[] k2)) H9 (Aa d0 HF.out) (by simp)
 rw [hZ]
 clear hZ
 obtain ⟨v0, v1, v2⟩ := f0.t3
 have n0 := H3.lt
 have hH := HH.out
 have hc : An Z w.heap.size 255 #[.func f1 #[] k1] := (hg.block w.heap.size (qg.1 (H2.from d0.out)).1 (by simp)).trans (H2.from d0.out)
 have a0 : An Z b1 236 #[.func (Fn.func 311) #[] #[pQ w.heap.size]] := (hg.block b1 (qg.1 h0.out).1 (by simp; omega)).trans h0.out
 refine bodyPost_ret (v := .agg #[.string { data := #[67, 76] }, .func (Fn.func 289) #[] #[pQ b1], .func f2 #[] k2]) (by simp [results, Tryz.results231, go_sem, v0, v1, v2]) rfl ⟨_, _, rfl, a0, hc, by have := HF.size; omega, qb _, g0⟩
theorem iE (w : WQ) (f1 f2 : Fn) (k1 k2 : Array Value) : cQ 241 #[.func f1 #[] k1, .func f2 #[] k2] w (Dm { data := #[67, 70] } 321 34 (.func f1 #[] k1) (.func f2 #[] k2) w) := by
 have hmf := hmf
 have m0 := Bz
 have i0 := sK fun (wx : WQ) (l0 : Array Value) => Da wx { data := #[67, 70] } (Fn.func 321) f2 l0 k2
 unfold Ez RowC at i0
 unfold Dm
 go_enter Tryz.func241, Tryz.ntmps241
 go_upto_region 1 with fail
 obtain ⟨W, hW⟩ := xQ ((w.alloc (.cells #[.func f1 #[] k1] 34)).alloc (.cells #[.string { data := #[] }, .nilFunc, .nilFunc] 189))
 have h2 : An W w.heap.size 34 #[.func f1 #[] k1] := by rw [hW]; exact (An.new w _ _).from (Ac _ _)
 have h3 : Blk W (w.heap.size + 1) #[.string { data := #[] }, .nilFunc, .nilFunc] := by
  rw [hW]; have h9 := Blk.new (w.alloc (.cells #[.func f1 #[] k1] 34)) #[.string { data := #[] }, .nilFunc, .nilFunc] 189; simpa using h9
 have b0 : From w W := by rw [hW]; exact Aa (Ac _ _) (Ac _ _)
 rw [<- hW]
 have H2 := sK h2
 have H3 := sK h3
 have HF := sK b0
 clear hW h2 h3 b0
 go_wp2_with (go_at_call 193; refine (i0 W _).mono ?_; rintro e w5 ⟨v, rfl, ⟨b1, rfl, a0, j0⟩, e0⟩; have h9 := H3.below e0; have c0 := h9.c0; have c1 := h9.c1; have c2 := h9.c2; have u0 := h9.free 0; have u1 := h9.free 1; have u2 := h9.free 2; have h0 := sK a0; have d0 := sK e0; have HH := sK j0; have H9 := sK h9; clear a0 e0 j0 h9)
 obtain ⟨Z, hZ, f0, hg, g0⟩ := set3 (A := (.string { data := #[67, 70] })) (G := (.func (Fn.func 289) #[] #[pQ b1])) (F := (.func f2 #[] k2)) H9 (Aa d0 HF.out) (by simp)
 rw [hZ]
 clear hZ
 obtain ⟨v0, v1, v2⟩ := f0.t3
 have n0 := H3.lt
 have hH := HH.out
 have hc : An Z w.heap.size 34 #[.func f1 #[] k1] := (hg.block w.heap.size (qg.1 (H2.from d0.out)).1 (by simp)).trans (H2.from d0.out)
 have a0 : An Z b1 236 #[.func (Fn.func 321) #[] #[pQ w.heap.size]] := (hg.block b1 (qg.1 h0.out).1 (by simp; omega)).trans h0.out
 refine bodyPost_ret (v := .agg #[.string { data := #[67, 70] }, .func (Fn.func 289) #[] #[pQ b1], .func f2 #[] k2]) (by simp [results, Tryz.results241, go_sem, v0, v1, v2]) rfl ⟨_, _, rfl, a0, hc, by have := HF.size; omega, qb _, g0⟩
theorem iJ (w : WQ) (f1 f2 : Fn) (k1 k2 : Array Value) : cQ 246 #[.func f1 #[] k1, .func f2 #[] k2] w (Dm { data := #[67, 67] } 323 106 (.func f1 #[] k1) (.func f2 #[] k2) w) := by
 have hmf := hmf
 have m0 := Bz
 have i0 := sK fun (wx : WQ) (l0 : Array Value) => Da wx { data := #[67, 67] } (Fn.func 323) f2 l0 k2
 unfold Ez RowC at i0
 unfold Dm
 go_enter Tryz.func246, Tryz.ntmps246
 go_upto_region 1 with fail
 obtain ⟨W, hW⟩ := xQ ((w.alloc (.cells #[.func f1 #[] k1] 106)).alloc (.cells #[.string { data := #[] }, .nilFunc, .nilFunc] 189))
 have h2 : An W w.heap.size 106 #[.func f1 #[] k1] := by rw [hW]; exact (An.new w _ _).from (Ac _ _)
 have h3 : Blk W (w.heap.size + 1) #[.string { data := #[] }, .nilFunc, .nilFunc] := by
  rw [hW]; have h9 := Blk.new (w.alloc (.cells #[.func f1 #[] k1] 106)) #[.string { data := #[] }, .nilFunc, .nilFunc] 189; simpa using h9
 have b0 : From w W := by rw [hW]; exact Aa (Ac _ _) (Ac _ _)
 rw [<- hW]
 have H2 := sK h2
 have H3 := sK h3
 have HF := sK b0
 clear hW h2 h3 b0
 go_wp2_with (go_at_call 193; refine (i0 W _).mono ?_; rintro e w5 ⟨v, rfl, ⟨b1, rfl, a0, j0⟩, e0⟩; have h9 := H3.below e0; have c0 := h9.c0; have c1 := h9.c1; have c2 := h9.c2; have u0 := h9.free 0; have u1 := h9.free 1; have u2 := h9.free 2; have h0 := sK a0; have d0 := sK e0; have HH := sK j0; have H9 := sK h9; clear a0 e0 j0 h9)
 obtain ⟨Z, hZ, f0, hg, g0⟩ := set3 (A := (.string { data := #[67, 67] })) (G := (.func (Fn.func 289) #[] #[pQ b1])) (F := (.func f2 #[] k2)) H9 (Aa d0 HF.out) (by simp)
 rw [hZ]
 clear hZ
 obtain ⟨v0, v1, v2⟩ := f0.t3
 have n0 := H3.lt
 have hH := HH.out
 have hc : An Z w.heap.size 106 #[.func f1 #[] k1] := (hg.block w.heap.size (qg.1 (H2.from d0.out)).1 (by simp)).trans (H2.from d0.out)
 have a0 : An Z b1 236 #[.func (Fn.func 323) #[] #[pQ w.heap.size]] := (hg.block b1 (qg.1 h0.out).1 (by simp; omega)).trans h0.out
 refine bodyPost_ret (v := .agg #[.string { data := #[67, 67] }, .func (Fn.func 289) #[] #[pQ b1], .func f2 #[] k2]) (by simp [results, Tryz.results246, go_sem, v0, v1, v2]) rfl ⟨_, _, rfl, a0, hc, by have := HF.size; omega, qb _, g0⟩
theorem Ub (w : WQ) (a : ByteArray) (f1 : Fn) (k1 : Array Value) : cQ 132 #[.string a, .func f1 #[] k1] w (Ez a 187 194 (.func f1 #[] k1) .nilFunc w) := by
 have hmf := hmf
 have m0 := Bz
 have o0 := Du
 unfold Ez RowC
 go_enter Tryz.func132, Tryz.ntmps132
 go_upto_region 1 with fail
 obtain ⟨W, hW⟩ := xQ ((w.alloc (.cells #[.func f1 #[] k1] 194)).alloc (.cells #[.string { data := #[] }, .nilFunc, .nilFunc] 189))
 have h2 : An W w.heap.size 194 #[.func f1 #[] k1] := by rw [hW]; exact (An.new w _ _).from (Ac _ _)
 have h3 : Blk W (w.heap.size + 1) #[.string { data := #[] }, .nilFunc, .nilFunc] := by
  rw [hW]; have h9 := Blk.new (w.alloc (.cells #[.func f1 #[] k1] 194)) #[.string { data := #[] }, .nilFunc, .nilFunc] 189; simpa using h9
 have b0 : From w W := by rw [hW]; exact Aa (Ac _ _) (Ac _ _)
 rw [<- hW]
 have H2 := sK h2
 have H3 := sK h3
 have HF := sK b0
 obtain ⟨c0, c1, c2⟩ := h3.t3
 have u0 := h3.free 0
 have u1 := h3.free 1
 have u2 := h3.free 2
 clear hW h2 h3 b0
 go_wp2
 have f0 := ((H3.set 0 (.string a)).set 1 (.func (Fn.func 187) #[] #[pQ w.heap.size])).set 2 .nilFunc
 simp only [qj, qo, qp] at f0
 have hg := ((Ad W (w.heap.size + 1) 0 (.string a)).trans (Ad _ (w.heap.size + 1) 1 (.func (Fn.func 187) #[] #[pQ w.heap.size]))).trans (Ad _ (w.heap.size + 1) 2 .nilFunc)
 have g0 := ((HF.setCell (p := ⟨w.heap.size + 1, 0, none⟩) (by simp) (.string a)).setCell (p := ⟨w.heap.size + 1, 1, none⟩) (by simp) (.func (Fn.func 187) #[] #[pQ w.heap.size])).setCell (p := ⟨w.heap.size + 1, 2, none⟩) (by simp) .nilFunc
 obtain ⟨Z, hZ⟩ := xQ ((((W.setCell ⟨w.heap.size + 1, 0, none⟩ (.string a)).setCell ⟨w.heap.size + 1, 1, none⟩ (.func (Fn.func 187) #[] #[pQ w.heap.size])).setCell ⟨w.heap.size + 1, 2, none⟩ .nilFunc))
 rw [<- hZ] at f0 hg g0 ⊢
 clear hZ
 obtain ⟨v0, v1, v2⟩ := f0.t3
 have hc : An Z w.heap.size 194 #[.func f1 #[] k1] := (hg.block w.heap.size (qg.1 H2.out).1 (by simp)).trans H2.out
 refine bodyPost_ret (v := .agg #[.string a, .func (Fn.func 187) #[] #[pQ w.heap.size], .nilFunc]) (by simp [results, Tryz.results132, go_sem, v0, v1, v2]) rfl ⟨_, rfl, ⟨_, rfl, hc, qb _⟩, g0⟩
def hamK : List UInt8 := [104, 97, 109, 109, 105, 110, 103]
def gfK : List UInt8 := [103, 102]
def HamF (w : WQ) (b : Nat) (v : Value) : Prop := ∃ b1 b2, v = .agg #[.string { data := #[70, 78] }, .func (Fn.func 289) #[] #[pQ b1], .func (Fn.func 199) #[] #[]] ∧ An w b1 236 #[.func (Fn.func 287) #[] #[pQ b2]] ∧ An w b2 234 #[.func (Fn.func 198) #[] #[]] ∧ b1 ≠ b ∧ b2 ≠ b
def oF (v : Value) : Prop := ∃ a f1 k1 f2 k2, v = .agg #[.string a, .func f1 #[] k1, .func f2 #[] k2]
def MapR (w : WQ) (b n : Nat) (K : List (List UInt8)) (h : Bool) : Prop :=
 ∃ f, HasM w Tryz.prog 9 b n f ∧ (∀ s v, f s = some v -> s ∈ K ∧ oF v) ∧ (h = true -> ∃ v, f hamK = some v ∧ HamF w b v)
theorem HamF.grown {w w' : WQ} {b : Nat} {v : Value} (h : HamF w b v) {r : Option Nat} (hg : w.grownBy w' r) (hr : ∀ j, r = some j -> j = b) : HamF w' b v := by
 obtain ⟨b1, b2, h1, h2, h3, h4, h5⟩ := h
 have l2 := (qg.1 h2).1
 have l3 := (qg.1 h3).1
 exact ⟨b1, b2, h1, (hg.block b1 l2 (fun e => h4 (hr _ e.symm))).trans h2, (hg.block b2 l3 (fun e => h5 (hr _ e.symm))).trans h3, h4, h5⟩
theorem MapR.from {w w' : WQ} {b n : Nat} {K : List (List UInt8)} {h : Bool} (hm : MapR w b n K h) (hb : From w w') : MapR w' b n K h := by
 obtain ⟨f, h1, h2, h3⟩ := hm
 refine ⟨f, h1.kept (Aw hb none) (by simp), h2, fun e => ?_⟩
 obtain ⟨v, h4, h5⟩ := h3 e
 exact ⟨v, h4, h5.grown (Aw hb none) (fun j e => by cases e)⟩
theorem MapR.made (w : WQ) : MapR (w.alloc (.map #[] 0)) w.heap.size 0 [] false := ⟨fun _ => none, HasM.made w _ 9, fun s v (h : (none : Option Value) = some v) => (by cases h), fun h => (by cases h)⟩
theorem MapR.lt {w : WQ} {b n : Nat} {K : List (List UInt8)} {h : Bool} (hm : MapR w b n K h) : b < w.heap.size := by obtain ⟨f, h1, _⟩ := hm; exact h1.lt
section
variable (w : WQ) {ops : Array Oper} {rest : List Oper} {o : Oper} {a : Act} {Q : Exit -> Act -> WQ -> Prop}
theorem Gb (hg : o.guard = none) (m x v : Operand) (hop : o.op = Op.insert 196 m x v) (b n : Nat) (K : List (List UInt8)) (h : Bool) (hm : a.eval m = .map (some b)) (hown : MapR w b n K h) (hn : n < maxLen) (s : ByteArray) (hx : a.eval x = .string s) (hs : s.size <= maxLen) (hne : s.data.toList ≠ hamK) (y : Value) (hv : a.eval v = y) (hy : oF y)
  (hK : ∀ w', MapR w' b (n + 1) (s.data.toList :: K) h -> w.grownBy w' (some b) -> wpList Tryz.prog ops Q rest (a.put o.dst undef) w') : wpList Tryz.prog ops Q (o :: rest) a w := by
 obtain ⟨f, h1, h2, h3⟩ := hown
 refine Fx w hg m x v 196 hop 9 189 Tryz.underlying9 Tryz.underlying196 b n f hm h1 hn s hx hs y hv fun w' hM l0 => hK w' ⟨_, hM, fun z u hu => ?_, fun e => ?_⟩ l0
 ·unfold putM at hu
  split at hu
  ·rename_i hz; cases hu; exact ⟨by rw [hz]; exact List.mem_cons_self, hy⟩
  ·obtain ⟨h4, h5⟩ := h2 z u hu; exact ⟨qcv _ h4, h5⟩
 ·obtain ⟨u, h4, h5⟩ := h3 e
  exact ⟨u, by unfold putM; rw [if_neg (fun e2 => hne e2.symm)]; exact h4, h5.grown l0 (fun j e => by injection e with e; exact e.symm)⟩
theorem Sn (hg : o.guard = none) (m x v : Operand) (hop : o.op = Op.insert 196 m x v) (b n : Nat) (K : List (List UInt8)) (h : Bool) (hm : a.eval m = .map (some b)) (hown : MapR w b n K h) (hn : n < maxLen) (s : ByteArray) (hx : a.eval x = .string s) (hs : s.size <= maxLen) (he : s.data.toList = hamK) (y : Value) (hv : a.eval v = y) (hy : oF y) (hH : HamF w b y)
  (hK : ∀ w', MapR w' b (n + 1) (s.data.toList :: K) true -> w.grownBy w' (some b) -> wpList Tryz.prog ops Q rest (a.put o.dst undef) w') : wpList Tryz.prog ops Q (o :: rest) a w := by
 obtain ⟨f, h1, h2, h3⟩ := hown
 refine Fx w hg m x v 196 hop 9 189 Tryz.underlying9 Tryz.underlying196 b n f hm h1 hn s hx hs y hv fun w' hM l0 => hK w' ⟨_, hM, fun z u hu => ?_, fun _ => ?_⟩ l0
 ·unfold putM at hu
  split at hu
  ·rename_i hz; cases hu; exact ⟨by rw [hz]; exact List.mem_cons_self, hy⟩
  ·obtain ⟨h4, h5⟩ := h2 z u hu; exact ⟨qcv _ h4, h5⟩
 ·exact ⟨y, by unfold putM; rw [if_pos he.symm], hH.grown l0 (fun j e => by injection e with e; exact e.symm)⟩
end
def Gd (n : Nat) (K : List (List UInt8)) (h : Bool) (w : WQ) (e : Ending) (w' : WQ) : Prop := ∃ b, e = .returned (.map (some b)) ∧ MapR w' b n K h ∧ w.heap.size <= b ∧ From w w'
def dK : List (List UInt8) := [[103, 111, 108, 97, 121], [114, 101, 115, 105, 100, 117, 101], [114, 109], [115, 105, 109, 112, 108, 101, 120], [104, 97, 109, 109, 105, 110, 103], [112, 97, 114, 105, 116, 121], [114, 101, 112], [109, 97, 116, 114, 105, 120], [119, 104, 111, 108, 101], [122, 101, 114, 111]]
theorem pD (w : WQ) : cQ 136 #[] w (Gd 10 dK true w) := by
 have hmf := hmf
 have n0 := @run_makeMap Tryz.prog
 have o0 := Bz
 have v0 := sK dT
 unfold Dm at v0
 have f0 := sK Da
 unfold Ez RowC at f0
 unfold Gd
 go_enter Tryz.func136, Tryz.ntmps136
 go_upto_region 2 with fail
 have g0 : From w w := From.refl w
 have hM := MapR.made w
 have hF : From w (w.alloc (.map #[] 0)) := Ac _ _
 go_wp2_with (first
  | (go_at_call 189; refine (v0 _ _ _ _ _).mono ?_; rintro e w9 ⟨b1, b2, rfl, c0, h0, e0, i0, a0⟩; have j0 := hM.lt; replace hM := hM.from a0; replace hF := Aa a0 hF; clear a0)
  | (go_at_call 193; refine (f0 _ _ _ _ _ _).mono ?_; rintro e w9 ⟨v, rfl, ⟨b1, rfl, c0, e0⟩, a0⟩; replace hM := hM.from a0; replace hF := Aa a0 hF; clear a0)
  | (refine Sn _ rfl _ _ _ rfl _ _ _ _ rfl hM (by unfold maxLen; omega) _ rfl (by unfold maxLen; decide) (by decide) _ rfl ⟨_, _, _, _, _, rfl⟩ ⟨b1, b2, rfl, c0, h0, by omega, by omega⟩ ?_; intro m0 b0 d0; replace hM := b0; replace hF := hF.grown d0 hF.size (fun k hk => by injection hk with hk; omega); clear b0 d0 c0 h0 e0 i0 j0)
  | (refine Gb _ rfl _ _ _ rfl _ _ _ _ rfl hM (by unfold maxLen; omega) _ rfl (by unfold maxLen; decide) (by decide) _ rfl ⟨_, _, _, _, _, rfl⟩ ?_; intro m0 b0 d0; replace hM := b0; replace hF := hF.grown d0 hF.size (fun k hk => by injection hk with hk; omega); clear b0 d0; (try clear c0 e0); (try clear h0 i0); (try clear j0)))
 go_ret
 exact ⟨_, rfl, hM, g0.size, Aa hF g0⟩
def bI : List (List UInt8) := [[103, 111, 112, 112, 97], [97, 108, 116, 101, 114, 110, 97, 110, 116], [103, 114, 115], [114, 115], [98, 99, 104], [99, 121, 99, 108, 105, 99]]
theorem qA (w : WQ) : cQ 137 #[] w (Gd 6 bI false w) := by
 have hmf := hmf
 have n0 := @run_makeMap Tryz.prog
 have o0 := Bz
 have f0 := sK Da
 unfold Ez RowC at f0
 unfold Gd
 go_enter Tryz.func137, Tryz.ntmps137
 go_upto_region 2 with fail
 obtain ⟨W, hW⟩ := xQ (w.alloc (.cells #[.func (Fn.func 209) #[] #[]] 242))
 have g0 : From w W := by rw [hW]; exact Ac _ _
 rw [<- hW]
 clear hW
 have hM := MapR.made W
 have hF : From W (W.alloc (.map #[] 0)) := Ac _ _
 go_wp2_with (first
  | (go_at_call 193; refine (f0 _ _ _ _ _ _).mono ?_; rintro e w9 ⟨v, rfl, ⟨b1, rfl, c0, e0⟩, a0⟩; replace hM := hM.from a0; replace hF := Aa a0 hF; clear a0)
  | (refine Gb _ rfl _ _ _ rfl _ _ _ _ rfl hM (by unfold maxLen; omega) _ rfl (by unfold maxLen; decide) (by decide) _ rfl ⟨_, _, _, _, _, rfl⟩ ?_; intro m0 b0 d0; replace hM := b0; replace hF := hF.grown d0 hF.size (fun k hk => by injection hk with hk; omega); clear b0 d0; (try clear c0 e0); (try clear h0 i0); (try clear j0)))
 go_ret
 exact ⟨_, rfl, hM, g0.size, Aa hF g0⟩
def bS : List (List UInt8) := [[105, 110, 116, 101, 114, 108, 101, 97, 118, 101], [108, 105, 102, 116], [116, 114, 97, 99, 101], [115, 117, 98, 102, 105, 101, 108, 100], [101, 120, 116, 101, 110, 100], [97, 117, 103, 109, 101, 110, 116], [101, 120, 112, 117, 114, 103, 97, 116, 101], [112, 101, 114, 109, 117, 116, 101], [115, 117, 98, 99, 111, 100, 101], [115, 104, 111, 114, 116, 101, 110], [112, 117, 110, 99, 116, 117, 114, 101], [104, 117, 108, 108], [100, 117, 97, 108]]
theorem pX (w : WQ) : cQ 138 #[] w (Gd 13 bS false w) := by
 have hmf := hmf
 have n0 := @run_makeMap Tryz.prog
 have o0 := Bz
 have q0 := sK Up
 unfold Dm at q0
 have r0 := sK Xz
 unfold Dm at r0
 have t0 := sK iE
 unfold Dm at t0
 have f0 := sK Da
 unfold Ez RowC at f0
 unfold Gd
 go_enter Tryz.func138, Tryz.ntmps138
 go_upto_region 2 with fail
 have g0 : From w w := From.refl w
 have hM := MapR.made w
 have hF : From w (w.alloc (.map #[] 0)) := Ac _ _
 go_wp2_with (first
  | (go_at_call 228; refine (q0 _ _ _ _ _).mono ?_; rintro e w9 ⟨b1, b2, rfl, c0, h0, e0, i0, a0⟩; have j0 := hM.lt; replace hM := hM.from a0; replace hF := Aa a0 hF; clear a0)
  | (go_at_call 231; refine (r0 _ _ _ _ _).mono ?_; rintro e w9 ⟨b1, b2, rfl, c0, h0, e0, i0, a0⟩; have j0 := hM.lt; replace hM := hM.from a0; replace hF := Aa a0 hF; clear a0)
  | (go_at_call 241; refine (t0 _ _ _ _ _).mono ?_; rintro e w9 ⟨b1, b2, rfl, c0, h0, e0, i0, a0⟩; have j0 := hM.lt; replace hM := hM.from a0; replace hF := Aa a0 hF; clear a0)
  | (go_at_call 193; refine (f0 _ _ _ _ _ _).mono ?_; rintro e w9 ⟨v, rfl, ⟨b1, rfl, c0, e0⟩, a0⟩; replace hM := hM.from a0; replace hF := Aa a0 hF; clear a0)
  | (refine Gb _ rfl _ _ _ rfl _ _ _ _ rfl hM (by unfold maxLen; omega) _ rfl (by unfold maxLen; decide) (by decide) _ rfl ⟨_, _, _, _, _, rfl⟩ ?_; intro m0 b0 d0; replace hM := b0; replace hF := hF.grown d0 hF.size (fun k hk => by injection hk with hk; omega); clear b0 d0; (try clear c0 e0); (try clear h0 i0); (try clear j0)))
 go_ret
 exact ⟨_, rfl, hM, g0.size, Aa hF g0⟩
def Ux : List (List UInt8) := [[120], [99, 111, 110, 99, 97, 116], [112, 114, 111, 100, 117, 99, 116], [106, 117, 120, 116, 97, 112, 111, 115, 101], [112, 108, 111, 116, 107, 105, 110], [115, 117, 109], [109, 101, 101, 116], [106, 111, 105, 110]]
theorem kE (w : WQ) : cQ 139 #[] w (Gd 8 Ux false w) := by
 have hmf := hmf
 have n0 := @run_makeMap Tryz.prog
 have o0 := Bz
 have w0 := sK iJ
 unfold Dm at w0
 have f0 := sK Da
 unfold Ez RowC at f0
 unfold Gd
 go_enter Tryz.func139, Tryz.ntmps139
 go_upto_region 2 with fail
 have g0 : From w w := From.refl w
 have hM := MapR.made w
 have hF : From w (w.alloc (.map #[] 0)) := Ac _ _
 go_wp2_with (first
  | (go_at_call 246; refine (w0 _ _ _ _ _).mono ?_; rintro e w9 ⟨b1, b2, rfl, c0, h0, e0, i0, a0⟩; have j0 := hM.lt; replace hM := hM.from a0; replace hF := Aa a0 hF; clear a0)
  | (go_at_call 193; refine (f0 _ _ _ _ _ _).mono ?_; rintro e w9 ⟨v, rfl, ⟨b1, rfl, c0, e0⟩, a0⟩; replace hM := hM.from a0; replace hF := Aa a0 hF; clear a0)
  | (refine Gb _ rfl _ _ _ rfl _ _ _ _ rfl hM (by unfold maxLen; omega) _ rfl (by unfold maxLen; decide) (by decide) _ rfl ⟨_, _, _, _, _, rfl⟩ ?_; intro m0 b0 d0; replace hM := b0; replace hF := hF.grown d0 hF.size (fun k hk => by injection hk with hk; omega); clear b0 d0; (try clear c0 e0); (try clear h0 i0); (try clear j0)))
 go_ret
 exact ⟨_, rfl, hM, g0.size, Aa hF g0⟩
end Go.Proofs.YtoalkldfhkabnaaGreatDoor
