/- Part of WholeTraces. -/
import Derived.Test.YtoalkldfhkabnaaGreatDoorW00
import Derived.Test.YtoalkldfhkabnaaGreatDoorW09
import Derived.Test.YtoalkldfhkabnaaGreatDoorW10
import Derived.Test.YtoalkldfhkabnaaGreatDoorW20
import Derived.Test.YtoalkldfhkabnaaGreatDoorW31
import Derived.Test.YtoalkldfhkabnaaGreatDoorW39
set_option linter.all false
set_option maxRecDepth 10000
set_option maxHeartbeats 16000000
namespace Go.Proofs.YtoalkldfhkabnaaGreatDoor
open Go.RowKit Fq
theorem RdMn.grown {w w' : WQ} {A : OQ} {n c r : Nat} {R : LQ} (h : RdMn w r A n c R) (hg : w.grownBy w' (some r)) : RdMn w' r A n c R := by
 have d2 : ∀ b o, b < w.heap.size -> b ≠ r -> w'.cell? ⟨b, o, none⟩ = w.cell? ⟨b, o, none⟩ := fun b o hb hr => by
  unfold World.cell?; simp only; rw [hg.block b hb (fun e => hr (by simpa using e))]
 refine ⟨⟨h.rd.len, h.rd.cap, h.rd.max, fun h0 => ?_⟩, fun b a1 e h0 => ?_⟩
 ·obtain ⟨b, a1, e, hb, hc⟩ := h.rd.cells h0
  obtain ⟨h1, h2⟩ := h.ne b a1 e h0; refine ⟨b, a1, e, qk hb hg.size, fun i hi => ?_⟩; obtain ⟨Ai, ci, h3, h4⟩ := hc i hi; exact ⟨Ai, ci, by rw [d2 _ _ hb h1]; exact h3, h4.kept hg fun b' o' e' e3 => h2 i hi Ai ci b' o' h3 e' e3⟩
 ·obtain ⟨h1, h2⟩ := h.ne b a1 e h0
  have s3 := h.rd.lt e h0; refine ⟨h1, fun i hi Ai ci b' o' h3 => ?_⟩; rw [d2 _ _ s3 h1] at h3; exact h2 i hi Ai ci b' o' h3
def addv (v u : NQ) : NQ := addRow F2.fld v 1 u
def Ej (G : LQ) : Nat -> Nat -> NQ -> NQ -> NQ
 | 0, _, v, b => Hd b v
 | l + 1, first, v, b => (List.range (4 - l - first)).foldl (fun b j => Ej G l (first + j + 1) (addv v (G.getD (first + j) [])) b) b
def Kb (G : LQ) (l first : Nat) (v b : NQ) (k : Nat) : NQ := (List.range k).foldl (fun b j => Ej G l (first + j + 1) (addv v (G.getD (first + j) [])) b) b
theorem Yf (G : LQ) (l first : Nat) (v b : NQ) (k : Nat) : Kb G l first v b (k + 1) = Ej G l (first + k + 1) (addv v (G.getD (first + k) [])) (Kb G l first v b k) := by
 unfold Kb; rw [qaj, List.foldl_append]; rfl
theorem fF {a b : NQ} {j n : Nat} (ha : a.length = n) (hb : b.length = n) (hj : j < n) (h : a.getD j 0 = b.getD j 0) : mixL a b (j + 1) = mixL a b j := by
 rw [<- Cu ha hb hj, h, <- Ep ha hb (qb j) hj]
 apply Tq (by simp)
 intro i h1 h2
 by_cases e : j = i
 ·subst e; rw [List.getElem_set_self, qa, qh (by simpa using h2)]; rfl
 ·rw [List.getElem_set_ne e]
theorem nE : ∀ x, x < 2 -> ∀ y, y < 2 -> F2.add x (F2.mul 1 y) < 2 ∧ (y = 0 -> F2.add x (F2.mul 1 y) = x) := by decide
def cO (wG : WQ) (s bg : Nat) (h : Nat -> Value) (b : NQ) (N : Nat) (w : WQ) (e : Ending) (w' : WQ) : Prop := (∃ v, e = .returned v) ∧ (∃ n, n <= N ∧ SrS wG w' s bg h b n) ∧ w.grownBy w' (some s)
theorem Uy (G : LQ) (hGl : G.length = 4) (hGM : Mat F2.fld 7 G) (wG : WQ) (s bg : Nat) (h : Nat -> Value) (B : OQ) (cg : Nat) : ∀ (l : Nat) (w : WQ) (b : NQ) (n : Nat) (hs : SrS wG w s bg h b n) (hB : RdMn w s B 4 cg G)
  (Av : OQ) (cv : Nat) (v : NQ) (hv : RdN w Av 7 cv v) (hve : Els F2 v) (hvs : ∀ k o, Av = some ⟨k, o, none⟩ -> k ≠ s) (first : Nat) (hf : first <= 4) (al : Bool) (b0 : n + 5 ^ l <= 100000),
  cQ 97 #[pQ s, .slice B 4 cg, .slice Av 7 cv, .int .i64 (first : Int), .int .i64 (l : Int), .bool al] w (cO wG s bg h (Ej G l first v b) (n + 5 ^ l) w)
 | 0, w, b, n, hs, hB, Av, cv, v, hv, hve, hvs, first, hf, al, b0 => by
  have x1 := sK (lH wG w s bg h b n hs (by simp at b0; omega) Av cv v hv hve hvs); unfold nM at x1; clear hs hB hv; go_enter Tryz.func97, Tryz.ntmps97; go_wp2_with (go_at_call 152; refine x1.mono ?_; rintro e w' ⟨⟨u, rfl⟩, z0, x0⟩); go_end0; exact ⟨⟨_, rfl⟩, ⟨n + 1, by simp, z0⟩, x0⟩
 | l + 1, w, b, n, hs, hB, Av, cv, v, hv, hve, hvs, first, hf, al, b0 => by
  obtain ⟨L, hL⟩ := xQ (l + 1); have a4 : ((L : Int) == 0) = false := by rw [beq_eq_false_iff_ne]; omega
  have HL := sK hL; have i0 := hv.len; have o4 : l <= 8 := by
   rcases Nq 8 l with h1 | h1
   ·have := qy (show 0 < 5 by decide) (show 8 <= l + 1 by omega)
    have h5 : (5 : Nat) ^ 8 = 390625 := by decide
    omega
   ·exact h1
  have k2 : 5 ^ (l + 1) = 5 * 5 ^ l := by rw [qr]; omega
  have v1 := sK (Uy G hGl hGM wG s bg h B cg l); have r1 := sK fun (wx : WQ) (hx : w.grownBy wx (some s)) => Gn wx Av 7 cv v (Kt hv hx (fun k o e _ e2 => hvs k o e (by simpa using e2.symm))) (by omega)
  have o2 := sK fun (wx : WQ) (hx : w.grownBy wx (some s)) => hB.grown hx
  have z2 := sK hs; have d3 := sK hve; obtain ⟨M5, f1⟩ := xQ (5 ^ l); rw [k2, <- f1] at b0 ⊢; have y1 := sK f1; have s2 := sK b0; unfold RetC at r1; unfold cO at v1; have c4 : L <= 9 := by omega
  have d4 : (L : Int) <= 9 := by omega
  rw [show (((l + 1 : Nat)) : Int) = (L : Int) by rw [hL]]; clear hs hB hv hve hL k2 f1 b0; go_enter Tryz.func97, Tryz.ntmps97; go_upto_region 3 with fail
  go_loopw [12] (fun iv wr => ∃ (k i n' : Nat), i = first + k ∧ k <= 4 ∧ iv = .int .i64 (i : Int) ∧ (k = 0 ∨ i + l <= 4) ∧ n' <= n + k * M5 ∧ SrS wG wr s bg h (Kb G l first v b k) n' ∧ w.grownBy wr (some s)) (fun iv _ => 9 - (intOf iv).toNat)
  case atStart => exact ⟨0, first, n, rfl, by omega, rfl, .inl rfl, by omega, z2.out, Uq _ _⟩
  case round =>
   obtain ⟨k, i, n', hi, f2, rfl, n4, g2, z0, x0⟩ := hrel; obtain ⟨wo, rfl⟩ := xQ wr; have j0 := sK z0; have n0 := sK x0; have HI := sK hi; have r0 := sK g2; have j4 : i <= 8 := by omega
   have k4 : (i : Int) <= 8 := by omega
   clear z0 x0 hi g2
   by_cases hin : i + L <= 4
   ·have r3 : (i : Int) + (L : Int) <= 4 := by omega
    have b4 : 1 <= L := by have := HL.out; omega
    have q3 : i < 4 := by omega
    have a2 : i < G.length := by omega
    have m0 : (G.getD i []).length = 7 := hGM.len a2; have l2 : ∀ j, j < 7 -> (G.getD i []).getD j 0 < 2 := fun j hj => hGM.rowLt a2 _ (Ap (by rw [m0]; exact hj) _)
    have m2 : ∀ j, v.getD j 0 < 2 := fun j => d3.at Ew j
    obtain ⟨Ab, cb, g0, _, _⟩ := j0.ex; have q1 : Hid (∀ wx, From wo wx -> wx.cell? ⟨s, 0, none⟩ = some (pQ bg)) := sK fun wx hx => by
     have h9 := (g0.below hx).t1; simpa using h9
    have p4 : s < wo.heap.size := g0.lt; have b1 : Hid (∀ wx, From wo wx -> GFat wx bg F2) := sK fun wx hx => j0.gf.below (Aa hx j0.fr)
    have v2 : Hid (∀ wx, From wo wx -> cQ 109 #[pQ bg] wx (fun e w' => e = .returned (.int .i64 2) ∧ wx = w')) := sK fun wx hx => Ir wx bg F2 (b1 wx hx)
    have j1 := o2 wo n0.out; obtain ⟨rb, ro, Ai, ci, g3, u3, k1, l1⟩ := j1.rd.at q3; subst g3; rw [m0] at k1 l1; have c1 := sK j1; have v0 : Hid (∀ wx, From wo wx -> wx.cell? ⟨rb, ro + i, none⟩ = some (.slice Ai 7 ci) ∧ RdN wx Ai 7 ci (G.getD i [])) := sK fun wx hx => ⟨(hx.cell (p := ⟨rb, ro + i, none⟩) u3).trans k1, l1.below hx⟩
    have r2 : Hid (Kb G l first v b (k + 1) = Ej G l (i + 1) (addv v (G.getD i [])) (Kb G l first v b k)) := sK (by rw [HI.out]; exact Yf ..); have j2 : (addv v (G.getD i [])).length = 7 := Bv i0 m0; have i2 : ∀ j, j < 7 -> (addv v (G.getD i [])).getD j 0 = F2.add (v.getD j 0) (F2.mul 1 ((G.getD i []).getD j 0)) := fun j hj => Co i0 m0 hj
    have f0 := sK j2; have q0 := sK i2; have w0 := sK l2; have d1 := sK m2; have f4 := c1.rd.cap; have m3 := c1.rd.max; unfold maxLen at m3; clear l2 m2 g0 j1 k1 l1 m0 j2 i2; generalize G.getD i [] = U at *; generalize hNX : addv v U = NX at *; clear hNX; go_wp2
    go_loopw [13] (fun av wr => (av = .int .i64 1 ∧ wo = wr) ∨ (av = .int .i64 2 ∧ ∃ n9, n9 <= n' + M5 ∧ SrS wG wr s bg h (Kb G l first v b (k + 1)) n9 ∧ w.grownBy wr (some s))) (fun av _ => 3 - (intOf av).toNat)
    case atStart => exact .inl ⟨rfl, rfl⟩
    case round =>
     rcases hrel with ⟨rfl, rfl⟩ | ⟨rfl, n9, b0, d0, l0⟩
     ·have c0 := q1 wo (From.refl wo)
      go_upto_region 9 with (first | (go_at_call 109; refine (v2 wo (From.refl wo)).mono ?_; rintro e w1 ⟨rfl, rfl⟩) | (go_at_call 125; refine (r1 wo n0.out).mono ?_; rintro e w2 ⟨Ar, cr, rfl, t3, y0, c2⟩))
      obtain ⟨br, rfl, k3, e4⟩ := (y0 (by decide)).block (by decide); have u2 := sK (y0 (by decide)); have u1 := sK c2; have n3 := (y0 (by decide)).le; unfold maxLen at n3; obtain ⟨v3, w3⟩ := v0 w2 u1.out; have g1 := u2.out; rw [<- Cz NX v] at g1; have t2 := sK g1; clear t3 y0 c2 g1 c0 w3; go_wp2
      go_loopw [47] (fun jv wr => ∃ j : Nat, j <= 7 ∧ jv = .int .i64 (j : Int) ∧ OwnN wr wo.heap.size (sQ br) 7 cr (mixL NX v j) ∧ From wo wr) (fun jv _ => 7 - (intOf jv).toNat)
      case atStart => exact ⟨0, qe _, rfl, t2.out, u1.out⟩
      case round =>
       clear v3; obtain ⟨j, hj, rfl, hO, hF⟩ := hrel; obtain ⟨we, rfl⟩ := xQ wr; have t0 := sK hO; have a0 := sK hF; clear hO hF
       by_cases hjm : j < 7
       ·have m4 : (j : Int) < 7 := by omega
        obtain ⟨ub, uo, f3, r4, s4⟩ := (v0 we a0.out).2.at hjm; subst f3; have g4 := (v0 we a0.out).2.cap; have l3 := (v0 we a0.out).2.max; unfold maxLen at l3; obtain ⟨n2, m1⟩ := nE _ (d1 j) _ (w0 j hjm)
        by_cases hu0 : U.getD j 0 = 0
        ·have x3 : (((U.getD j 0 : Nat) : Int) != 0) = false := by rw [hu0]; rfl
         have a3 : Hid (mixL NX v (j + 1) = mixL NX v j) := sK (fF f0 i0 hjm (by rw [q0 j hjm]; exact m1 hu0)); clear n2 m1 hu0; generalize U.getD j 0 = uj at *; go_wp2; go_roundw
         case rel => exact ⟨j + 1, by omega, by go_num, by rw [a3.out]; exact t0.out, a0.out⟩
         case measure => simp [intOf]; omega
        ·have x3 : (((U.getD j 0 : Nat) : Int) != 0) = true := by rw [bne_iff_ne]; omega
         have s1 : Hid (∀ wx, From we wx -> wx.cell? ⟨s, 0, none⟩ = some (pQ bg) ∧ wx.cell? ⟨br, j, none⟩ = some (.int .i64 ((v.getD j 0 : Nat) : Int)) ∧ wx.frozen? ⟨br, j, none⟩ = false) := sK fun wx h9 => by
          have h8 := t0.below h9; refine ⟨q1 wx (Aa h9 a0.out), ?_, h8.free j⟩; rw [h8.cell hjm, Ep f0 i0 (qb j) hjm]
         have z1 : Hid (∀ wx, From we wx -> cQ 108 #[pQ bg, .int .i64 1, .int .i64 ((U.getD j 0 : Nat) : Int)] wx (Bs (iv (F2.mul 1 (U.getD j 0))) wx)) := sK fun wx h9 => Fy wx bg F2 (b1 wx (Aa h9 a0.out)) _ _ (by decide) (w0 j hjm)
         have o1 : Hid (∀ wx, From we wx -> cQ 115 #[pQ bg, iv (v.getD j 0), iv (F2.mul 1 (U.getD j 0))] wx (Bs (iv (NX.getD j 0)) wx)) := sK fun wx h9 => by
          rw [q0 j hjm]; exact Hh wx bg F2 (b1 wx (Aa h9 a0.out)) _ _ (d1 j) (Ew.mul_lt _ _)
         have d0 : NX.getD j 0 < 1000000 := by rw [q0 j hjm]; omega
         have c3 : Hid (∀ wx, From we wx -> OwnN (wx.setCell ⟨br, j, none⟩ (.int .i64 ((NX.getD j 0 : Nat) : Int))) wo.heap.size (sQ br) 7 cr (mixL NX v (j + 1))) := sK fun wx h9 => by
          have h8 := (t0.below h9).set j d0
          rwa [Cu f0 i0 hjm] at h8
         have q4 := w0 j hjm; unfold iv at z1 o1; clear d0 n2 m1 hu0; generalize v.getD j 0 = vj at *; generalize U.getD j 0 = uj at *; generalize F2.mul 1 uj = mm at *; generalize NX.getD j 0 = nx at *; go_upto_region 13 with fail
         have i3 : From we we := From.refl we; refine wpT 19 83 [.v (.slice (sQ br) 7 cr), .v (.int .i64 (j : Int)), .v (pQ s), .v (pQ s), .v (pQ s), .v (pQ bg), .v (.slice (sQ br) 7 cr), .v (.int .i64 (j : Int)), .v (.pointer (some ⟨br, j, none⟩)), .v (.int .i64 (vj : Int)), .v (pQ s), .v (pQ s), .v (pQ s), .v (pQ bg), .v (.int .i64 1), .v (.int .i64 (uj : Int)), .v (.int .i64 (mm : Int)), .v (.int .i64 (nx : Int)), .v (.pointer (some ⟨br, j, none⟩))] we (by kernel_rfl) (by kernel_rfl) (by kernel_rfl) rfl (From.drew i3) ?_; simp only [Tk]
         iterate 19 (refine .z (fun wx hx _ hK => by first | (go_simp; exact Kz hK) | (obtain ⟨o3, p3, _⟩ := s1 wx hx; go_simp; exact Kz hK) | (go_simp; refine (z1 wx hx).mono ?_; rintro e w' ⟨rfl, j9, rfl⟩; exact hK.out _ _ rfl (Ae (bR) _)) | (go_simp; refine (o1 wx hx).mono ?_; rintro e w' ⟨rfl, j9, rfl⟩; exact hK.out _ _ rfl (Ae (bR) _))) ?_; simp only [Pt])
         refine .nil fun w8 n1 _ => ?_
         obtain ⟨o3, p3, i4⟩ := s1 w8 n1; go_wp2; go_roundw
         case rel => exact ⟨j + 1, by omega, by go_num, c3 w8 n1, (Aa n1 a0.out).setCell (p := ⟨br, j, none⟩) k3 _⟩
         case measure => simp [intOf]; omega
       ·obtain rfl : j = 7 := by omega
        have i1 := t0.out; rw [Dp f0 i0] at i1; have y2 : Hid (cQ 97 #[pQ s, .slice (some ⟨rb, ro, none⟩) 4 cg, .slice (sQ br) 7 cr, .int .i64 ((i : Int) + 1), .int .i64 ((L : Int) - 1), .bool false] we (fun e w' => (∃ v, e = .returned v) ∧ (∃ n9, n9 <= n' + M5 ∧ SrS wG w' s bg h (Kb G l first v b (k + 1)) n9) ∧ we.grownBy w' (some s))) := sK (by
         have j3 : Els F2 NX := fun x hx => by
          obtain ⟨j, hj, rfl⟩ := Iq.1 hx; have h2 := q0 j (by have := f0.out; omega); rw [qa, qh hj] at h2; have h3 := (nE _ (d1 j) _ (w0 j (by have := f0.out; omega))).1; have h4 : NX[j] = _ := h2; rw [h4]; exact h3
         have h9 := v1 we _ n' (j0.below a0.out) (c1.below a0.out) (sQ br) cr NX i1.rd j3 (fun k o e => by simp only [qc, qd, and_true] at e; omega) (i + 1) (by omega) false (by
          rw [<- y1.out]; have h1 := r0.out; have h2 := s2.out; have h3 : k * M5 <= 4 * M5 := qct _ f2; omega)
         rw [r2.out]; have e1 : ((i + 1 : Nat) : Int) = (i : Int) + 1 := by omega
         have e2 : ((l : Nat) : Int) = (L : Int) - 1 := by have := HL.out; omega
         rw [e1, e2, <- y1.out] at h9; exact h9)
        clear i1; have l4 : ¬ ((7 : Nat) : Int) < 7 := by omega
        go_upto_region 16 with (go_at_call 97; refine y2.mono ?_; rintro e w9 ⟨⟨u, rfl⟩, ⟨n9, b0, d0⟩, l0⟩)
        have o0 := sK ((n0.trans (Aw a0 _)).trans l0); have e0 := sK d0; clear l0 d0
        cases al
        ·go_wp2
         go_roundw
         case rel => exact .inr ⟨rfl, n9, b0, e0.out, o0.out⟩
         case measure => simp [intOf]
        ·go_wp2
         go_roundw
         case rel => exact ⟨k + 1, i + 1, n9, by rw [HI.out]; omega, by have := HI.out; omega, by go_num, .inr (by have := HL.out; omega), by have := r0.out; rw [qcl]; omega, e0.out, o0.out⟩
         case measure => simp [intOf]; omega
     ·have e0 := sK d0
      have o0 := sK l0; obtain ⟨y3, z3, g0, _, _⟩ := e0.ex; have c0 := g0.t1; have x2 : Hid (cQ 109 #[pQ bg] wr (fun e w' => e = .returned (.int .i64 2) ∧ wr = w')) := sK (Ir wr bg F2 (e0.gf.below e0.fr)); clear d0 l0 g0; go_wp2_with (go_at_call 109; refine x2.mono ?_; rintro e w1 ⟨rfl, rfl⟩); go_roundw
      case rel => exact ⟨k + 1, i + 1, n9, by rw [HI.out]; omega, by have := HI.out; omega, by go_num, .inr (by have := HL.out; omega), by have := r0.out; rw [qcl]; omega, e0.out, o0.out⟩
      case measure => simp [intOf]; omega
   ·have r3 : ¬ (i : Int) + (L : Int) <= 4 := by omega
    have p2 : Hid (Ej G (l + 1) first v b = Kb G l first v b k) := sK (by
     show Kb G l first v b (4 - l - first) = _; have h1 := HL.out; have h2 := HI.out
     congr 1
     omega)
    go_wp2; go_end0; refine ⟨⟨_, rfl⟩, ⟨n', ?_, by rw [p2.out]; exact j0.out⟩, n0.out⟩; have h1 := r0.out; have h2 : k * M5 <= 4 * M5 := qct _ f2; omega
theorem Mg (w : WQ) (x y : Nat) (hx : x < 1000000) (hy : 0 < y) (hy9 : y < 1000000) : cQ 268 #[.int .u64 0, .int .u64 (x : Int), .int .u64 (y : Int)] w (Bs (.tuple #[.int .u64 ((x / y : Nat) : Int), .int .u64 ((x % y : Nat) : Int)]) w) := by
 have r1 : ((y : Int) == 0) = false := by rw [beq_eq_false_iff_ne]; omega
 have m1 : ¬ (y : Int) <= 0 := by omega
 have e1 : (x : Int) / (y : Int) = ((x / y : Nat) : Int) := rfl
 have hq : x / y <= x := qaf _ _
 have h1 : 0 <= (x : Int) / (y : Int) := by rw [e1]; exact Int.natCast_nonneg _
 have h2 : (x : Int) / (y : Int) <= 1000000 := by rw [e1]; exact Int.ofNat_le.2 (show x / y <= 1000000 from qs hq (by omega))
 have HE := sK e1
 clear e1 hq
 go_enter Tryz.func268, Tryz.ntmps268
 go_upto_region 6 with fail
 go_region
 go_wp2
 go_ret2
 exact ⟨by rw [HE.out]; rfl, 1, rfl⟩
theorem Ze (w : WQ) (x y : Nat) (hx : x < 1000) (hy : y < 1000) : cQ 267 #[.int .u64 (x : Int), .int .u64 (y : Int)] w (Ba (.tuple #[.int .u64 0, .int .u64 ((x * y : Nat) : Int)]) w) := by
 refine (Tryz.bits_Mul64 x y (by omega) (by omega) w).mono ?_
 rintro e w' ⟨rfl, rfl⟩
 have h1 : x * y < 1000000 := by
  have := qbx (show x <= 999 by omega) (show y <= 999 by omega); omega
 rw [qag (by omega), Bq (by omega)]
 exact ⟨rfl, rfl⟩
theorem iZ (w : WQ) : cQ 149 #[.int .i64 4, .int .i64 1, .int .i64 65536] w (Ah (.tuple #[.int .i64 4, zQ]) w) := by
 have HM := sK fun wx => Ze wx 1 4 (by decide) (by decide)
 have HD := sK fun wx => Mg wx 4 1 (by decide) (by decide) (by decide)
 unfold Ba at HM
 unfold Bs at HD
 go_enter Tryz.func149, Tryz.ntmps149
 go_wp2
 refine wp_loop_rounds 2 ?_
 rw [rounds_succ]
 go_wp2_with (first | (go_at_call 267; refine (HM _).mono ?_; rintro e w1 ⟨rfl, rfl⟩) | (go_at_call 268; refine (HD _).mono ?_; rintro e w1 ⟨rfl, j1, rfl⟩))
 rw [rounds_succ]
 go_wp2
 go_ret2
 exact ⟨rfl, Ae (bR) _⟩
theorem nI (w : WQ) : cQ 149 #[.int .i64 4, .int .i64 2, .int .i64 65536] w (Ah (.tuple #[.int .i64 6, zQ]) w) := by
 have j0 := sK fun wx => Ze wx 1 3 (by decide) (by decide)
 have g0 := sK fun wx => Mg wx 3 1 (by decide) (by decide) (by decide)
 have l0 := sK fun wx => Ze wx 3 4 (by decide) (by decide)
 have h0 := sK fun wx => Mg wx 12 2 (by decide) (by decide) (by decide)
 unfold Ba at j0 l0
 unfold Bs at g0 h0
 go_enter Tryz.func149, Tryz.ntmps149
 go_wp2
 refine wp_loop_rounds 3 ?_
 rw [rounds_succ]
 go_wp2_with (first | (go_at_call 267; refine (j0 _).mono ?_; rintro e w1 ⟨rfl, rfl⟩) | (go_at_call 268; refine (g0 _).mono ?_; rintro e w1 ⟨rfl, j1, rfl⟩))
 rw [rounds_succ]
 go_wp2_with (first | (go_at_call 267; refine (l0 _).mono ?_; rintro e w1 ⟨rfl, rfl⟩) | (go_at_call 268; refine (h0 _).mono ?_; rintro e w1 ⟨rfl, j2, rfl⟩))
 rw [rounds_succ]
 go_wp2
 go_ret2
 exact ⟨rfl, Ae (bR) _⟩
theorem Wm (w : WQ) (A : OQ) (c n L : Nat) (hr : RdN w A 3 c [2, n, 1]) (hn : 0 < n) (hn9 : n <= 6) (hL : 1000 <= L) (hL9 : L <= 65536) : cQ 151 #[nQ L, .slice A 3 c] w (Ba (.tuple #[.int .i64 (2 * (n : Int)), zQ]) w) := by
 have e0 := sK (Lz w A 3 c _ hr)
 have f0 : Hid (cQ 65 #[.slice A 3 c, zQ] w (Ba (.bool false) w)) := sK (by
  have h9 := Ic w A 3 c _ hr 0; rw [decide_eq_false (by simp; omega)] at h9; exact h9)
 obtain ⟨b, o, rfl, hb, c0⟩ := hr.at (k := 0) (by omega)
 have c1 := hr.cellAt (k := 1) (by omega)
 have c2 := hr.cellAt (k := 2) (by omega)
 have i1 := hr.cap
 have a1 := hr.max
 unfold maxLen at a1
 simp at c0 c1 c2
 have l1 : ¬ (L : Int) < 0 := by omega
 have e2 : Int.tdiv (L : Int) 2 = ((L / 2 : Nat) : Int) := rfl
 have en : Int.tdiv (L : Int) (n : Int) = ((L / n : Nat) : Int) := rfl
 have e1 : Int.tdiv (L : Int) 1 = ((L / 1 : Nat) : Int) := rfl
 have h2 : 500 <= L / 2 := by omega
 have z0 : L / 2 <= L := qaf _ _
 have b1 : 100 <= L / n := by rw [Nat.le_div_iff_mul_le hn]; have := qbg 100 hn9; omega
 have d1 : L / n <= L := qaf _ _
 have m0 : L / 1 = L := Nat.div_one _
 rw [m0] at e1
 have q1 : ((n : Int) == 0) = false := by rw [beq_eq_false_iff_ne]; omega
 obtain ⟨q2, o0⟩ : ∃ q, q = L / 2 := ⟨_, rfl⟩
 obtain ⟨qn, q0⟩ : ∃ q, q = L / n := ⟨_, rfl⟩
 rw [<- o0] at e2 h2 z0
 rw [<- q0] at en b1 d1
 unfold Ba at e0 f0 ⊢
 clear hr o0 q0 m0
 go_enter Tryz.func151, Tryz.ntmps151
 go_upto_region 7 with (first | (go_at_call 269; refine e0.mono ?_; rintro e w1 ⟨rfl, rfl⟩) | (go_at_call 65; refine f0.mono ?_; rintro e w1 ⟨rfl, rfl⟩))
 refine wp_loop_rounds 4 ?_
 rw [rounds_succ]
 go_wp2
 rw [rounds_succ]
 go_wp2
 rw [rounds_succ]
 go_wp2
 rw [rounds_succ]
 go_wp2
 go_ret2
 exact ⟨by simp, rfl⟩
theorem mE (wG w : WQ) (s bg : Nat) (h : Nat -> Value) (b : NQ) (n : Nat) (hs : SrS wG w s bg h b n) (hn9 : n <= 1000) (B : OQ) (cg : Nat) (h5 : h 5 = .slice B 4 cg) (AG : OQ) (cG : Nat) (h6 : h 6 = .slice AG 2 cG) (t m : Nat) (hm : 0 < m) (hm9 : m <= 6) (ht : 1 <= t) (ht9 : t <= 100)
  (HCH : ∀ wx, cQ 149 #[.int .i64 4, nQ t, .int .i64 65536] wx (Ah (.tuple #[nQ m, zQ]) wx)) :
  cQ 96 #[pQ s, nQ t] w (Ah (.tuple #[.int .i64 (2 * (m : Int)), zQ]) w) := by
 obtain ⟨i0, k1, s1, t1, u1⟩ := info_parts Bj
 have d0 := sK HCH
 obtain ⟨Ab, cb, hB, _, _⟩ := hs.ex
 rw [h5, h6] at hB
 have HB := sK hB
 have v0 : Hid (∀ wx, cQ 150 #[.int .i64 1, .int .i64 ((t : Int) - 1), .int .i64 65536] wx (fun e w' => e = .returned (.tuple #[.int .i64 1, zQ]) ∧ wx = w')) := sK fun wx => by
  rw [show (t : Int) - 1 = ((t - 1 : Nat) : Int) by omega]; exact qG wx (t - 1)
 have w0 : Hid (∀ wx, From w wx -> cQ 109 #[pQ bg] wx (fun e w' => e = .returned (.int .i64 2) ∧ wx = w')) := sK fun wx hx => Ir wx bg F2 (hs.gf.below (Aa hx hs.fr))
 have x0 : Hid (∀ wx A c, RdN wx A 3 c [2, m, 1] -> cQ 151 #[.int .i64 (65536 - (n : Int)), .slice A 3 c] wx (fun e w' => e = .returned (.tuple #[.int .i64 (2 * (m : Int)), zQ]) ∧ wx = w')) := sK fun wx A c hr => by
  rw [show 65536 - (n : Int) = ((65536 - n : Nat) : Int) by omega]; exact Wm wx A c m (65536 - n) hr hm hm9 (by omega) (by omega)
 have a0 : Hid (∀ wx, From w wx -> wx.cell? ⟨s, 0, none⟩ = some (pQ bg) ∧ wx.cell? ⟨s, 5, none⟩ = some (.slice B 4 cg) ∧ wx.cell? ⟨s, 6, none⟩ = some (.slice AG 2 cG) ∧ wx.cell? ⟨s, 8, none⟩ = some (nQ n)) := sK fun wx hx => by
  have h9 := hB.below hx; obtain ⟨c0, -, -, -, -, c5, c6, -, c8⟩ := h9.t9; exact ⟨c0, c5, c6, c8⟩
 unfold Ah at d0 ⊢
 clear hs HCH h5 h6 hB
 obtain ⟨c0, c5, c6, c8⟩ := a0 w (From.refl w)
 go_enter Tryz.func96, Tryz.ntmps96
 go_upto_region 4 with (go_at_call 149; refine (d0 _).mono ?_; rintro e w1 ⟨rfl, n0⟩)
 have b0 := sK n0
 clear n0 c0 c5 c6 c8
 obtain ⟨c0, c5, c6, c8⟩ := a0 w1 b0.out
 go_upto_region 7 with (first | (go_at_call 109; refine (w0 w1 b0.out).mono ?_; rintro e w2 ⟨rfl, rfl⟩) | (go_at_call 150; refine (v0 w1).mono ?_; rintro e w2 ⟨rfl, rfl⟩))
 clear c0 c5 c6 c8
 have n1 : (m : Int) <= 6 := by omega
 have o1 : (n : Int) <= 1000 := by omega
 have f1 : IntKind.i64.wrap (65536 - (n : Int)) = 65536 - (n : Int) := qbz _ ⟨by omega, by omega⟩
 refine wpT 19 56 [.v (pQ s), .v (pQ s), .v (.pointer (some ⟨s, 8, none⟩)), .v (nQ n), .v (.int .i64 (65536 - (n : Int))), .v (pQ s), .v (pQ s), .v (.pointer (some ⟨s, 6, none⟩)), .v (.slice AG 2 cG), .v (.int .i64 2), .v (nQ m), .v (.int .i64 1), .r (IsRd 3 [2, m, 1]) IsRd.lasting, .v (.tuple #[.int .i64 (2 * (m : Int)), zQ]), .v (.tuple #[.int .i64 (2 * (m : Int)), zQ]), .v (.int .i64 (2 * (m : Int))), .v (zQ), .v (.int .i64 (2 * (m : Int))), .v (zQ)] w (by kernel_rfl) (by kernel_rfl) (by kernel_rfl) rfl (From.drew b0.out) ?_
 simp only [Tk]
 iterate 4 (refine .z (fun wx hx _ hK => by first | (go_simp; exact Kz hK) | (obtain ⟨_, _, _, c8⟩ := a0 wx hx; go_simp; exact Kz hK)) ?_; simp only [Pt])
 refine .z (fun wx hx KK hK => ?_) ?_
 ·go_simp
  try rw [f1]
  exact Kz hK
 simp only [Pt]
 iterate 7 (refine .z (fun wx hx _ hK => by first | (go_simp; exact Kz hK) | (obtain ⟨_, _, c6, _⟩ := a0 wx hx; go_simp; exact Kz hK)) ?_; simp only [Pt])
 refine .r (fun wx hx hd KK hK => ?_) (fun v1 => ?_)
 ·clear hd
  go_simp; exact hK.out _ _ ⟨_, _, rfl, (OwnN.lit wx (base := wx.heap.size) [2, m, 1] 3 rfl (qb _) (by decide) (fun x hx => by simp at hx; omega)).rd⟩ (Ac _ _)
 simp only [Pt]
 refine .v (fun wx hx hd KK hK => ?_) ?_
 ·obtain ⟨t0, y0, rfl, r0⟩ := hd _ (.head _) (by kernel_rfl)
  clear hd; go_simp; refine (x0 wx _ _ r0).mono ?_; rintro e w' ⟨rfl, rfl⟩; exact Kz hK
 simp only [Pt]
 iterate 5 (refine .z (fun _ _ _ hK => by go_simp; exact Kz hK) ?_; simp only [Pt])
 refine .nil fun w8 g1 hd => ?_
 obtain ⟨t0, y0, rfl, r0⟩ := hd _ (.head _)
 clear hd
 go_wp2
 go_ret2
 exact ⟨rfl, g1⟩
def Gk (k : Nat) : LQ := sysR hamL 7 4 (Sr k)
def GkL : Nat -> LQ | 0 => hamL | _ => [[1, 1, 1, 0, 0, 0, 0], [0, 1, 1, 1, 1, 0, 0], [0, 1, 0, 1, 0, 1, 0], [0, 0, 1, 1, 0, 0, 1]]
theorem jX : ∀ k, k < 2 -> Gk k = GkL k := by decide +kernel
theorem rA : ∀ k, k < 2 -> (GkL k).length = 4 ∧ ∀ r ∈ GkL k, r.length = 7 ∧ ∀ x ∈ r, x < 2 := by decide
theorem rU {k : Nat} (hk : k < 2) : (Gk k).length = 4 ∧ Mat F2.fld 7 (Gk k) := by rw [jX k hk]; exact rA k hk
theorem gM : ∀ k, k < 2 -> Ps (Sr k) 7 := by
 intro k hk
 have h1 : ∀ k, k < 2 -> (∀ x ∈ Sr k, x < 7) ∧ ∀ i, i < (Sr k).length -> 0 < i -> (Sr k).getD (i - 1) 0 < (Sr k).getD i 0 := by decide
 exact ⟨(h1 k hk).1, fun i h0 h2 => (h1 k hk).2 i h2 h0⟩
theorem rF : ∀ k, k < 2 -> (grd F2 hamL (Sr k) 4).2.length = 4 := by decide +kernel
theorem sB : ∀ k, k < 2 -> ∀ c, c < 4 -> ent (gj F2 4 c (hamL.map (selR (Sr k)), Gz 4)).1 c c = 1 := by decide +kernel
def z7 : NQ := List.replicate 7 0
theorem rO : Els F2 z7 := fun x hx => by rw [List.eq_of_mem_replicate hx]; decide
theorem sG : ∀ t, t < 2 -> 5 ^ (t + 1) <= 25 := by decide
def bstJ (b : NQ) (t j : Nat) : NQ := match j with | 0 => b | 1 => Ej (Gk 0) (t + 1) 0 z7 b | _ => Ej (Gk 1) (t + 1) 0 z7 (Ej (Gk 0) (t + 1) 0 z7 b)
theorem gK (b : NQ) (t : Nat) : ∀ j, j < 2 -> bstJ b t (j + 1) = Ej (Gk j) (t + 1) 0 z7 (bstJ b t j)
 | 0, _ => rfl
 | 1, _ => rfl
def bst (t : Nat) : NQ := match t with | 0 => [] | 1 => bstJ [] 0 2 | _ => bstJ (bstJ [] 0 2) 1 2
theorem nK : ∀ t, t < 2 -> bst (t + 1) = bstJ (bst t) t 2
 | 0, _ => rfl
 | 1, _ => rfl
theorem rJ : ∀ t, t < 2 -> wt (bst (t + 1)) = 3 ∧ (bst (t + 1)).length = 7 := by
 intro t ht
 have h0 := jX 0 (by decide)
 have h1 := jX 1 (by decide)
 have h2 : ∀ t, t < 2 -> wt (match t + 1 with | 0 => [] | 1 => Ej (GkL 1) 1 0 z7 (Ej (GkL 0) 1 0 z7 []) | _ => Ej (GkL 1) 2 0 z7 (Ej (GkL 0) 2 0 z7 (Ej (GkL 1) 1 0 z7 (Ej (GkL 0) 1 0 z7 [])))) = 3 ∧ (match t + 1 with | 0 => [] | 1 => Ej (GkL 1) 1 0 z7 (Ej (GkL 0) 1 0 z7 []) | _ => Ej (GkL 1) 2 0 z7 (Ej (GkL 0) 2 0 z7 (Ej (GkL 1) 1 0 z7 (Ej (GkL 0) 1 0 z7 [])))).length = 7 := by decide +kernel
 have h3 := h2 t ht
 unfold bst bstJ
 rw [h0, h1]
 exact h3
def rkL (r : Nat) : NQ := (List.range r).map Nr
theorem jY (r : Nat) : rkL (r + 1) = rkL r ++ [Nr r] := by unfold rkL; rw [qaj, qam]; rfl
theorem sH : ∀ t, t < 2 -> flK 4 (t + 1) (rkL 2) 2 = 2 * t + 3 := by decide
theorem rT : ∀ i, i < 2 -> (rkL 2).getD i 0 <= 4 := by decide
theorem sI : ∀ r, r < 2 -> Nr r <= 4 := by decide
def X3 (s : Nat) (a b : Value) (x : Nat) : Prop := x = s ∨ a.ownBlock = some x ∨ b.ownBlock = some x
structure GnI (w : WQ) (b1 s r : Nat) (Ar : OQ) (cr : Nat) (AG : OQ) (cG : Nat) : Prop where
 rk : OwnN w b1 Ar r cr (rkL r)
 gn : ∃ vs, w.ownsRow b1 25 1 (.slice AG r cG) r vs ∧ ∀ k, k < r -> ∃ Bk ck, vs[k]? = some (.slice Bk 4 ck) ∧ Cc w (X3 s (.slice Ar r cr) (.slice AG r cG)) Bk 4 ck (Gk k)
theorem GnI.nil (w : WQ) (b1 s : Nat) : GnI w b1 s 0 none 0 none 0 := ⟨OwnN.nil _ _, [], Rq w b1 25 1, fun k hk => absurd hk (by omega)⟩
theorem GnI.below {w w' : WQ} {b1 s r cr cG : Nat} {Ar AG : OQ} (h : GnI w b1 s r Ar cr AG cG) (hb : From w w') : GnI w' b1 s r Ar cr AG cG := by
 obtain ⟨vs, h1, h2⟩ := h.gn
 refine ⟨h.rk.below hb, vs, Ag h1 hb (qb _), fun k hk => ?_⟩
 obtain ⟨Bk, ck, h3, h4⟩ := h2 k hk
 exact ⟨Bk, ck, h3, h4.below hb⟩
theorem Ch {w : WQ} {b1 e z n : Nat} {v : Value} {vs : VQ} (h : w.ownsRow b1 e z v n vs) {x : Nat} (hx : v.ownBlock = some x) : b1 <= x := (h.lt x hx).1
theorem GnI.kept {w w' : WQ} {b1 s r cr cG : Nat} {Ar AG : OQ} (h : GnI w b1 s r Ar cr AG cG) (hg : w.grownBy w' (some s)) (hs : s < b1) : GnI w' b1 s r Ar cr AG cG := by
 obtain ⟨vs, h1, h2⟩ := h.gn
 refine ⟨h.rk.kept' hg (fun x hx e => ?_), vs, h1.kept hg ?_, fun k hk => ?_⟩
 ·have h9 := Ch h.rk.row (x := x) (by rw [hx]; rfl)
  simp only [qc] at e; omega
 ·cases hob : (Value.slice AG r cG).ownBlock with
  | none => exact .inl rfl
  | some b =>
   refine .inr fun e => ?_
   have h9 := Ch h1 hob; simp only [qc] at e; omega
 ·obtain ⟨Bk, ck, h3, h4⟩ := h2 k hk
  exact ⟨Bk, ck, h3, h4.grown hg (fun b e => .inl (by simpa using e.symm))⟩
theorem Cc.apart {w : WQ} {X : Nat -> Prop} {A : OQ} {n c s : Nat} {R : LQ} (h : Cc w X A n c R) (hs : X s) : RdMn w s A n c R := by
 refine ⟨h.rd, fun b g0 e h0 => ?_⟩
 obtain ⟨vs, h1, h2, h3⟩ := h.own
 obtain ⟨g, c0, hv, _, f0⟩ := h1.form h0
 simp only [qm, true_and] at hv
 obtain ⟨rfl, rfl⟩ := hv
 simp only [qc, qd, and_true] at e
 obtain ⟨rfl, rfl⟩ := e
 have a0 : vs.length = n := by have := h1.1; omega
 refine ⟨fun e => h2 g rfl (by rw [e]; exact hs), fun i hi Ai ci b' o' h4 e2 h5 e3 => ?_⟩
 obtain ⟨b0, d0, h6, _, h7⟩ := h3 i hi
 have h8 := h1.cellAt i (by omega)
 rw [Zq, h8] at h4
 have h9 : vs.getD i undef = .slice Ai (R.getD i []).length ci := by
  rw [qa, h4]; rfl
 rw [h6] at h9
 simp only [qm] at h9
 obtain ⟨rfl, _⟩ := h9
 exact (h7 b' o' e2 h5).2 (by rw [e3]; exact hs)
structure GnH (w : WQ) (b1 s r : Nat) (Ar : OQ) (cr : Nat) (AG : OQ) (cG : Nat) : Prop where
 rk : OwnN w b1 Ar r cr (rkL r)
 gn : ∃ vs, w.ownsRow b1 25 1 (.slice AG (r + 1) cG) (r + 1) vs ∧ ∀ k, k < r + 1 -> ∃ Bk ck, vs[k]? = some (.slice Bk 4 ck) ∧ Cc w (X3 s (.slice Ar r cr) (.slice AG (r + 1) cG)) Bk 4 ck (Gk k)
theorem GnH.below {w w' : WQ} {b1 s r cr cG : Nat} {Ar AG : OQ} (h : GnH w b1 s r Ar cr AG cG) (hb : From w w') : GnH w' b1 s r Ar cr AG cG := by
 obtain ⟨vs, h1, h2⟩ := h.gn
 refine ⟨h.rk.below hb, vs, Ag h1 hb (qb _), fun k hk => ?_⟩
 obtain ⟨Bk, ck, h3, h4⟩ := h2 k hk
 exact ⟨Bk, ck, h3, h4.below hb⟩
theorem GnH.kept {w w' : WQ} {b1 s r cr cG : Nat} {Ar AG : OQ} (h : GnH w b1 s r Ar cr AG cG) (hg : w.grownBy w' (some s)) (hs : s < b1) : GnH w' b1 s r Ar cr AG cG := by
 obtain ⟨vs, h1, h2⟩ := h.gn
 refine ⟨h.rk.kept' hg (fun x hx e => ?_), vs, h1.kept hg ?_, fun k hk => ?_⟩
 ·have h9 := Ch h.rk.row (x := x) (by rw [hx]; rfl)
  simp only [qc] at e; omega
 ·cases hob : (Value.slice AG (r + 1) cG).ownBlock with
  | none => exact .inl rfl
  | some b =>
   refine .inr fun e => ?_
   have h9 := Ch h1 hob; simp only [qc] at e; omega
 ·obtain ⟨Bk, ck, h3, h4⟩ := h2 k hk
  exact ⟨Bk, ck, h3, h4.grown hg (fun b e => .inl (by simpa using e.symm))⟩
theorem Cc.turned {w w' : WQ} {X Y : Nat -> Prop} {A : OQ} {n c g : Nat} {R : LQ} {ob : Option Nat} (h : Cc w X A n c R) (hg : w.grownBy w' ob) (ho : ∀ b, ob = some b -> X b) (hor : ob = some g ∨ g = w.heap.size) (hY : ∀ b, Y b -> X b ∨ b = g) : Cc w' Y A n c R := by
 have h1 : Cc w (fun b => X b ∨ b = g) A n c R := h.less (fun b hb => by
  rcases hb with hb | rfl
  ·exact .inl hb
  ·rcases hor with h2 | h2
   ·exact .inl (ho b h2)
   ·exact .inr (by omega))
 exact (h1.grown hg (fun b e => .inl (ho b e))).less (fun b hb => .inl (hY b hb))
theorem GnI.gens {w w' : WQ} {b1 s r cr cG g2 cap2 ck : Nat} {Ar AG Bk : OQ} {vs : VQ} (hrk : OwnN w b1 Ar r cr (rkL r)) (hvs : w.ownsRow b1 25 1 (.slice AG r cG) r vs)
  (hks : ∀ k, k < r -> ∃ Bk ck, vs[k]? = some (.slice Bk 4 ck) ∧ Cc w (X3 s (.slice Ar r cr) (.slice AG r cG)) Bk 4 ck (Gk k)) (hnew : Cc w (X3 s (.slice Ar r cr) (.slice AG r cG)) Bk 4 ck (Gk r))
  (hg : w.grownBy w' (Value.slice AG r cG).ownBlock) (hown : w'.ownsRow b1 25 1 (.slice (sQ g2) (r + 1) cap2) (r + 1) (vs ++ [.slice Bk 4 ck])) (hor : (Value.slice AG r cG).ownBlock = some g2 ∨ g2 = w.heap.size) :
  GnH w' b1 s r Ar cr (sQ g2) cap2 := by
 have hY : ∀ b, X3 s (.slice Ar r cr) (.slice (sQ g2) (r + 1) cap2) b -> X3 s (.slice Ar r cr) (.slice AG r cG) b ∨ b = g2 := fun b hb => by
  rcases hb with h1 | h1 | h1
  ·exact .inl (.inl h1)
  ·exact .inl (.inr (.inl h1))
  ·right
   have h2 : g2 = b := by simpa [Value.ownBlock] using h1
   exact h2.symm
 have a0 : vs.length = r := by have := hvs.1; omega
 refine ⟨hrk.kept' hg (fun x hx e => Ec hvs hrk.row (by decide) e (by rw [hx]; rfl)), _, hown, fun k hk => ?_⟩
 by_cases hkr : k < r
 ·obtain ⟨B9, c9, h3, h4⟩ := hks k hkr
  exact ⟨B9, c9, by rw [Pq (by omega)]; exact h3, h4.turned hg (fun b e => .inr (.inr e)) hor hY⟩
 ·obtain rfl : k = r := by omega
  refine ⟨Bk, ck, by rw [Gq (by omega), a0]; simp, hnew.turned hg (fun b e => .inr (.inr e)) hor hY⟩
theorem GnH.rank {w w' : WQ} {b1 s r cr cG g3 c3 : Nat} {Ar AG : OQ} (h : GnH w b1 s r Ar cr AG cG) (hg : w.grownBy w' (Value.slice Ar r cr).ownBlock) (ho : OwnN w' b1 (sQ g3) (r + 1) c3 (rkL r ++ [Nr r])) (hor : (Value.slice Ar r cr).ownBlock = some g3 ∨ g3 = w.heap.size) :
  GnI w' b1 s (r + 1) (sQ g3) c3 AG cG := by
 obtain ⟨vs, h1, h2⟩ := h.gn
 have hY : ∀ b, X3 s (.slice (sQ g3) (r + 1) c3) (.slice AG (r + 1) cG) b -> X3 s (.slice Ar r cr) (.slice AG (r + 1) cG) b ∨ b = g3 := fun b hb => by
  rcases hb with h1 | h1 | h1
  ·exact .inl (.inl h1)
  ·right
   have h2 : g3 = b := by simpa [Value.ownBlock] using h1
   exact h2.symm
  ·exact .inl (.inr (.inr h1))
 refine ⟨by rw [jY]; exact ho, vs, h1.kept hg ?_, fun k hk => ?_⟩
 ·cases hob : (Value.slice AG (r + 1) cG).ownBlock with
  | none => exact .inl rfl
  | some b => exact .inr fun e => Ec h1 h.rk.row (by decide) hob e.symm
 ·obtain ⟨Bk, ck, h3, h4⟩ := h2 k hk
  exact ⟨Bk, ck, h3, h4.turned hg (fun b e => .inr (.inl e)) hor hY⟩
def chm : Nat -> Nat | 0 => 4 | _ => 6
theorem rP : ∀ t, t < 2 -> 0 < chm t ∧ chm t <= 6 := by decide
theorem iU (t : Nat) (ht : t < 2) (w : WQ) : cQ 149 #[.int .i64 4, .int .i64 ((t + 1 : Nat) : Int), .int .i64 65536] w (Ah (.tuple #[nQ (chm t), zQ]) w) :=
 match t, ht with
 | 0, _ => iZ w
 | 1, _ => nI w
theorem SrS.turned {wG w w' : WQ} {s bg b1 t n : Nat} {h : Nat -> Value} {b : NQ} {v : Value} {vs : VQ} (hs : SrS wG w s bg h b n) (ho : w.ownsRow b1 152 4 v t vs) (hg : w.grownBy w' v.ownBlock) (hsb : s < b1) : SrS wG w' s bg h b n := by
 obtain ⟨Ab, cb, h1, h2, h3⟩ := hs.ex
 have e0 := hs.lo
 exact ⟨⟨Ab, cb, h1.kept hg (fun e => by have := (ho.lt s e).1; omega), h2.kept' hg (fun x hx e => Ec ho h2.row (by decide) e (by rw [hx]; rfl)), h3⟩,
  qac hs.fr hg hs.fr.size (fun k hk => by have := (ho.lt k hk).1; omega), hs.gf, hs.lo, hs.len, hs.els⟩
theorem iL {w w' : WQ} {b1 s e z t : Nat} {v : Value} {vs : VQ} (ho : w.ownsRow b1 e z v t vs) (hg : w.grownBy w' (some s)) (hsb : s < b1) : w'.ownsRow b1 e z v t vs := by
 refine ho.kept hg ?_
 cases hob : v.ownBlock with
 | none => exact .inl rfl
 | some b =>
  refine .inr fun e9 => ?_
  have h9 := Ch ho hob; simp only [qc] at e9; omega
def Zw (w : WQ) (e : Ending) (w' : WQ) : Prop := ∃ vo A2 c2 l, e = .returned (.tuple #[vo, .slice A2 7 c2, zQ]) ∧ RdN w' A2 7 c2 l ∧ wt l = 3 ∧ From w w'
theorem rS : (Tryz.prog.info? 25).map (fun i => (i.zero, i.size, i.bytes)) = some (some (eQ), 1, 24) := by kernel_rfl
theorem pG : (Tryz.prog.info? 152).map (fun i => (i.zero, i.size, i.bytes)) = some (some (.agg #[zQ, zQ, zQ, zQ]), 4, 32) := by kernel_rfl
end Go.Proofs.YtoalkldfhkabnaaGreatDoor
