/- Part of WholeTraces. -/
import Derived.Test.YtoalkldfhkabnaaGreatDoorW00
import Derived.Test.YtoalkldfhkabnaaGreatDoorW04
import Derived.Test.YtoalkldfhkabnaaGreatDoorW10
import Derived.Test.YtoalkldfhkabnaaGreatDoorW27
import Derived.Test.YtoalkldfhkabnaaGreatDoorW36
import Derived.Test.YtoalkldfhkabnaaGreatDoorW38
set_option linter.all false
set_option maxRecDepth 10000
set_option maxHeartbeats 16000000
namespace Go.Proofs.YtoalkldfhkabnaaGreatDoor
open Go.RowKit Fq
def lenV : Value -> Nat | .slice _ n _ => n | _ => 0
def Hx (w : WQ) (base : Nat) (A : OQ) (r c : Nat) (u : Option Nat) : Prop :=
 ∃ vs, w.ownsRow base 146 2 (.slice A r c) r vs ∧ ∀ k, k < r -> ∃ gk ck, vs[2 * k]? = some (.slice (sQ gk) 4 ck) ∧ vs[2 * k + 1]? = some (nQ (Nr k)) ∧ OwnN w base (sQ gk) 4 ck (Sr k) ∧ u ≠ some gk
theorem Hx.nil (w : WQ) (base : Nat) (u : Option Nat) : Hx w base none 0 0 u := ⟨[], Rq w base 146 2, fun k hk => absurd hk (by omega)⟩
theorem Hx.below {w w' : WQ} {base r c : Nat} {A : OQ} {u : Option Nat} (h : Hx w base A r c u) (hb : From w w') : Hx w' base A r c u := by
 obtain ⟨vs, h1, h2⟩ := h
 refine ⟨vs, Ag h1 hb (qb _), fun k hk => ?_⟩
 obtain ⟨gk, ck, h3, h4, h5, h6⟩ := h2 k hk
 exact ⟨gk, ck, h3, h4, h5.below hb, h6⟩
def iP (w : WQ) (e : Ending) (w' : WQ) : Prop := ∃ A c u, e = .returned (.tuple #[.slice A 2 c, zQ]) ∧ Hx w' w.heap.size A 2 c u ∧ From w w'
theorem qF : (Tryz.prog.info? 146).map (fun i => (i.zero, i.size, i.bytes)) = some (some (.agg #[eQ, zQ]), 2, 32) := by kernel_rfl
theorem Ec {w : WQ} {B B' e e' s s' n n' : Nat} {v v' : Value} {xs xs' : VQ} (h : w.ownsRow B e s v n xs) (h' : w.ownsRow B' e' s' v' n' xs') (hne : e ≠ e') {b : Nat} (hb : v.ownBlock = some b) : v'.ownBlock ≠ some b := fun u1 => by
 rcases h.2 with ⟨e1, _⟩ | ⟨g, cap, cur, e1, _, e2, _⟩
 ·rw [e1] at hb; simp [Value.ownBlock] at hb
 ·rcases h'.2 with ⟨f1, _⟩ | ⟨g', cap', cur', f1, _, f2, _⟩
  ·rw [f1] at u1; simp [Value.ownBlock] at u1
  ·rw [e1] at hb; rw [f1] at u1
   have k1 : g = b := by simpa [Value.ownBlock] using hb
   have k2 : g' = b := by simpa [Value.ownBlock] using u1
   rw [k1] at e2; rw [k2, e2] at f2; simp only [qc, Obj.cells.injEq] at f2; exact hne f2.2.1
theorem Yc (w : WQ) (A0 : OQ) (c0 cg : Nat) (B : OQ) (P : NQ) (h : CdOk w c0 7 B 4 cg hamL P) : cQ 94 #[cV A0 c0 7 B 4 cg] w (iP w) := by
 obtain ⟨i0, a3, i3, j3, l3⟩ := info_parts Bj
 obtain ⟨i2, a6, i6, j6, k6⟩ := info_parts qF
 have v3 := sK fun (wx : WQ) (hx : From w wx) => Rr wx A0 c0 7 4 cg B hamL P (h.below hx)
 have d2 := sK fun (wx : WQ) (hx : From w wx) (bg : Nat) (hg : GFat wx bg F2) (Ao : OQ) (co : Nat) (O : NQ) (hO : RdN wx Ao 7 co O) (u5 : ∀ x ∈ O, x < 7) => Oz wx bg F2 hg 2 1 A0 0 c0 7 B 4 cg hamL (h.rd.below hx) h.rr.mat (by omega) (by omega) Ao 7 co O hO u5 (by omega) (by omega)
 have l1 := sK Ic
 unfold Ba iv at l1
 unfold Ga at v3
 unfold RetN at d2
 unfold cV at *
 clear h
 go_enter Tryz.func94, Tryz.ntmps94
 go_upto_region 1 with fail
 obtain ⟨W, hW, y5, l4, b0⟩ := mk1 w #[.int .i64 2, .int .i64 1, .slice A0 0 c0, .int .i64 7, .slice B 4 cg] 27
 rw [hW]
 clear hW
 obtain ⟨k0, k1, k2, k3, k4⟩ := b0.t5
 have HB := sK b0
 have HF := sK l4
 clear b0 l4 y5
 go_upto_region 6 with (go_at_call 142; refine (v3 _ HF.out).mono ?_; rintro e w2 ⟨bg, rfl, _, n4, x2⟩)
 have m1 := sK (Aa x2 HF.out)
 have f5 := sK n4
 have c5 := sK (HB.below x2)
 clear k0 k1 k2 k3 k4 x2 n4
 go_loopw [6, 7] (fun fv uv wr => ∃ (r : Nat) (Af : OQ) (cf : Nat) (Au : OQ) (cu : Nat), r <= 2 ∧ fv = .slice Af r cf ∧ uv = .slice Au (4 * r) cu ∧ OwnN wr w2.heap.size Au (4 * r) cu (Ur r) ∧ Hx wr w2.heap.size Af r cf (Value.slice Au (4 * r) cu).ownBlock ∧ From w2 wr) (fun fv _ _ => 3 - lenV fv)
 case atStart => exact ⟨0, none, 0, none, 0, by omega, rfl, rfl, OwnN.nil _ _, Hx.nil _ _ _, From.refl _⟩
 case round =>
  obtain ⟨r, Af, cf, Au, cu, b7, rfl, rfl, hU, hS, hF⟩ := hrel; obtain ⟨wo, rfl⟩ := xQ wr; have j0 : r < 3 := by omega
  have HU := sK hU; have o1 := sK hS; have n0 := sK hF; have n6 := hU.le; unfold maxLen at n6; have g7 : 4 * r <= 8 := by omega
  have z1 := sK (c5.below hF); clear hU hS hF; go_upto_region 8 with fail
  obtain ⟨W3, f4, v5, i4, q0⟩ := mk1 wo #[.bool false, .bool true] 4; rw [f4]; clear f4; have HQ := sK q0; have x0 := sK i4; clear q0 i4 v5; refine wp_loop_rounds 3 ?_; rw [rounds_succ]; have q0 := (HQ.below (From.refl _)).t1; obtain ⟨-, -, -, n7⟩ := (z1.below x0.out).t4; go_upto_region 11 with fail
  clear q0 n7
  go_loopw [8, 31] (fun ov pv wr => ∃ (p : Nat) (A : OQ) (c : Nat), p <= 7 ∧ pv = nQ p ∧ ov = .slice A ([] ++ inU (Ur r) false p).length c ∧ OwnN wr W3.heap.size A ([] ++ inU (Ur r) false p).length c ([] ++ inU (Ur r) false p) ∧ From W3 wr) (fun _ pv _ => 7 - (intOf pv).toNat)
  case atStart => exact ⟨0, none, 0, by omega, rfl, rfl, OwnN.nil _ _, From.refl _⟩
  case round =>
   obtain ⟨p, A, c, e6, rfl, rfl, hO, a0⟩ := hrel; obtain ⟨wp, rfl⟩ := xQ wr; have h0 : ([] ++ inU (Ur r) false p).length <= 14 := by
    have h1 : (inU (Ur r) false 7).length <= 7 := by unfold inU; exact qs (qbr _ _) (by simp)
    have h2 : (inU (Ur r) false p).length <= 7 := by unfold inU; exact qs (qbr _ _) (by simp; omega)
    simp at h1 h2 ⊢ <;> omega
   have t0 := Wj (Ur r) false p
   by_cases hpl : p < 7
   ·have f6 : (p : Int) < 7 := by omega
    have g0 := sK t0; have d0 := sK (l1 wp Au (4 * r) cu (Ur r) (HU.rd.below (Aa a0 x0.out)) p); have HO := sK hO; have f0 := sK a0; have m6 := a0.size; generalize hL : [] ++ inU (Ur r) false p = L at *; have HL := sK hL; clear hO a0 t0 hL
    by_cases hin : p ∈ Ur r
    ·have hd : decide (p ∈ Ur r) = true := decide_eq_true hin
     rw [hd] at d0 g0; clear hin hd; go_upto_region 15 with (go_at_call 65; refine d0.mono ?_; rintro e w' ⟨rfl, rfl⟩)
     go_wp2; go_roundw
     case rel =>
      have e9 : [] ++ inU (Ur r) false (p + 1) = L := by rw [g0.out, <- qap, HL.out]; simp
      refine ⟨p + 1, A, c, by omega, by go_num, ?_, ?_, f0.out⟩
      ·rw [e9]
      ·rw [e9]; exact HO.out
     case measure => simp [intOf]; omega
    ·have hd : decide (p ∈ Ur r) = false := decide_eq_false hin
     rw [hd] at d0 g0; clear hin hd; go_upto_region 14 with (go_at_call 65; refine d0.mono ?_; rintro e w' ⟨rfl, rfl⟩)
     have m2 := sK (HO.alloc (.cells #[nQ p] 3)); go_upto_region 15 with (at_builtin; refine Bl rfl (.tmp 39) (.tmp 41) 22 rfl i0 Tryz.underlying22 a3 i3 j3 l3 W3.heap.size A L.length c L rfl m2 wp.heap.size 0 p rfl (by go_simp) (by omega) (by omega) (by simp; omega) ?_; intro g' c' w8 d1 j1 d3)
     have b1 : From W3 w8 := (f0.alloc (by omega) (.cells #[nQ p] 3)).grown j1 (by simp; omega) (fun b hb => (HO.row.lt b hb).1); have l2 := sK d1; have c2 := sK b1; clear d1 j1 d3 b1; go_wp2; go_roundw
     case rel =>
      have e9 : [] ++ inU (Ur r) false (p + 1) = L ++ [p] := by rw [g0.out, <- qap, HL.out]; rfl
      refine ⟨p + 1, sQ g', c', by omega, by go_num, ?_, ?_, c2.out⟩
      ·rw [e9, Hq]; rfl
      ·rw [e9, Hq]; exact l2.out
     case measure => simp [intOf]; omega
   ·obtain rfl : p = 7 := by omega
    obtain ⟨A4, p2⟩ := xQ A; obtain ⟨c4, z2⟩ := xQ c; obtain ⟨W4, u2⟩ := xQ wp; rw [<- p2, <- z2] at hO; rw [<- u2] at hO a0; rw [<- p2, <- z2, <- u2]; have l5 := sK hO; have n2 := sK a0; clear p2 z2 u2 hO a0 t0; go_wp2; rw [rounds_succ]; obtain ⟨-, q0⟩ := (HQ.below n2.out).t2; obtain ⟨-, -, -, n7⟩ := (z1.below (Aa n2 x0.out)).t4; go_upto_region 11 with fail
    clear q0 n7
    go_loopw [8, 31] (fun ov pv wr => ∃ (p : Nat) (A : OQ) (c : Nat), p <= 7 ∧ pv = nQ p ∧ ov = .slice A (inU (Ur r) false 7 ++ inU (Ur r) true p).length c ∧ OwnN wr W3.heap.size A (inU (Ur r) false 7 ++ inU (Ur r) true p).length c (inU (Ur r) false 7 ++ inU (Ur r) true p) ∧ From W3 wr) (fun _ pv _ => 7 - (intOf pv).toNat)
    case atStart => exact ⟨0, A4, c4, by omega, rfl, by simp [inU], by simpa [inU] using l5.out, n2.out⟩
    case round =>
     obtain ⟨p, A, c, e6, rfl, rfl, hO, a0⟩ := hrel; obtain ⟨wp, rfl⟩ := xQ wr; have h0 : (inU (Ur r) false 7 ++ inU (Ur r) true p).length <= 14 := by
      have h1 : (inU (Ur r) false 7).length <= 7 := by unfold inU; exact qs (qbr _ _) (by simp)
      have h2 : (inU (Ur r) true p).length <= 7 := by unfold inU; exact qs (qbr _ _) (by simp; omega)
      simp at h1 h2 ⊢ <;> omega
     have t0 := Wj (Ur r) true p
     by_cases hpl : p < 7
     ·have f6 : (p : Int) < 7 := by omega
      have g0 := sK t0; have d0 := sK (l1 wp Au (4 * r) cu (Ur r) (HU.rd.below (Aa a0 x0.out)) p); have HO := sK hO; have f0 := sK a0; have m6 := a0.size; generalize hL : inU (Ur r) false 7 ++ inU (Ur r) true p = L at *; have HL := sK hL; clear hO a0 t0 hL
      by_cases hin : p ∈ Ur r
      ·have hd : decide (p ∈ Ur r) = true := decide_eq_true hin
       rw [hd] at d0 g0; clear hin hd; go_upto_region 14 with (go_at_call 65; refine d0.mono ?_; rintro e w' ⟨rfl, rfl⟩)
       have m2 := sK (HO.alloc (.cells #[nQ p] 3)); go_upto_region 15 with (at_builtin; refine Bl rfl (.tmp 39) (.tmp 41) 22 rfl i0 Tryz.underlying22 a3 i3 j3 l3 W3.heap.size A L.length c L rfl m2 wp.heap.size 0 p rfl (by go_simp) (by omega) (by omega) (by simp; omega) ?_; intro g' c' w8 d1 j1 d3)
       have b1 : From W3 w8 := (f0.alloc (by omega) (.cells #[nQ p] 3)).grown j1 (by simp; omega) (fun b hb => (HO.row.lt b hb).1); have l2 := sK d1; have c2 := sK b1; clear d1 j1 d3 b1; go_wp2; go_roundw
       case rel =>
        have e9 : inU (Ur r) false 7 ++ inU (Ur r) true (p + 1) = L ++ [p] := by rw [g0.out, <- qap, HL.out]; rfl
        refine ⟨p + 1, sQ g', c', by omega, by go_num, ?_, ?_, c2.out⟩
        ·rw [e9, Hq]; rfl
        ·rw [e9, Hq]; exact l2.out
       case measure => simp [intOf]; omega
      ·have hd : decide (p ∈ Ur r) = false := decide_eq_false hin
       rw [hd] at d0 g0; clear hin hd; go_upto_region 15 with (go_at_call 65; refine d0.mono ?_; rintro e w' ⟨rfl, rfl⟩)
       go_wp2; go_roundw
       case rel =>
        have e9 : inU (Ur r) false 7 ++ inU (Ur r) true (p + 1) = L := by rw [g0.out, <- qap, HL.out]; simp
        refine ⟨p + 1, A, c, by omega, by go_num, ?_, ?_, f0.out⟩
        ·rw [e9]
        ·rw [e9]; exact HO.out
       case measure => simp [intOf]; omega
     ·obtain rfl : p = 7 := by omega
      rw [rG r j0] at hO ⊢; have c3 := rZ r j0; rw [c3.1] at hO ⊢; have HO := sK hO; have f0 := sK (Aa a0 x0.out); have f7 := (Aa a0 x0.out).size; have m4 := z1.below f0.out; have s3 : Hid (cQ 143 #[pQ bg, .agg #[.int .i64 2, .int .i64 1, .slice A0 0 c0, .int .i64 7, .slice B 4 cg], .slice A 7 c] wp (fun e w' => ∃ A c, e = .returned (.slice A 4 c) ∧ OwnN w' wp.heap.size A 4 c (Gr r) ∧ Below wp.heap.size wp w')) := sK (by
       have h9 := d2 wp (Aa (Aa f0 n0.out) m1.out) bg (f5.below (Aa f0 n0.out)) A c (Or_ r) hO.rd c3.2; rw [sD r j0, (rL r j0).1] at h9; exact h9)
      obtain ⟨k0, k1, k2, k3, k4⟩ := m4.t5; clear hO a0 t0 m4 c3 d2; go_wp2; rw [rounds_succ]; go_upto_region 18 with (go_at_call 143; refine s3.mono ?_; rintro e w5 ⟨As, cs, rfl, y1, y2⟩)
      obtain ⟨gs, rfl, v6, w6⟩ := y1.block (by omega); obtain ⟨W6, j4, x5, v2, v0⟩ := mk1 w5 #[.slice (sQ gs) 4 cs, zQ] 146; rw [j4]; clear j4; obtain ⟨a1, w1⟩ := xQ w5.heap.size; rw [<- w1] at v0 ⊢; have z5 : w5.heap.size <= a1 := qcq w1.symm; have r6 : a1 <= w5.heap.size := qcq w1; have k5 := sK y1; have l6 := y1.le; unfold maxLen at l6; have HV := sK v0; have e5 := sK (Aa (Aa v2 y2) f0.out); have d7 := y2.size; have a2 := sK v2; clear y1 y2 v2 x5 v0 w1 k0 k1 k2 k3 k4 s3; obtain ⟨v0, v1⟩ := HV.t2; go_upto_region 19 with fail
      clear v0 v1
      go_loopw [53] (fun m3 wr => ∃ (i : Nat), i <= 4 ∧ m3 = nQ i ∧ Blk wr a1 #[.slice (sQ gs) 4 cs, .int .i64 (newC (Ur r) (Gr r) i : Int)] ∧ Below a1 W6 wr) (fun m3 _ => 4 - (intOf m3).toNat)
      case atStart => exact ⟨0, by omega, rfl, by simpa [newC] using HV.out, bR⟩
      case round =>
       obtain ⟨i, x6, rfl, hV, h0⟩ := hrel; obtain ⟨wv, rfl⟩ := xQ wr; have z6 := hV.lt; have c1 : From wo wv := e5.trans (qf h0 (by omega)); have s1 : OwnN wv wp.heap.size (sQ gs) 4 cs (Gr r) := k5.below (a2.trans (qf h0 z5))
       by_cases hil : i < 4
       ·have y6 : (i : Int) < 4 := by omega
        have t6 := s1.cell hil; have o4 := gY r j0 i hil; have a7 := qB r j0 i (by omega); have d0 := sK (l1 wv Au (4 * r) cu (Ur r) (HU.rd.below c1) ((Gr r).getD i 0)); have u6 : gs < wv.heap.size := by have := h0.size; have := a2.size; omega
        generalize (Gr r).getD i 0 = x at *; have n1 := sK o4; have HV := sK hV; have o3 := sK h0; generalize hq : newC (Ur r) (Gr r) i = q at *; obtain ⟨-, v1⟩ := hV.t2; have f1 := hV.free 1; clear hV h0 c1 s1 o4 hq
        by_cases hin : x ∈ Ur r
        ·have hd : decide (x ∈ Ur r) = true := decide_eq_true hin
         have j2 : Hid (newC (Ur r) (Gr r) (i + 1) = q) := sK (by rw [n1.out, if_pos hin]; rfl); rw [hd] at d0; clear hin hd n1; go_wp2_with (go_at_call 65; refine d0.mono ?_; rintro e w' ⟨rfl, rfl⟩); go_roundw
         case rel => exact ⟨i + 1, by omega, by go_num, by rw [j2.out]; exact HV.out, o3.out⟩
         case measure => simp [intOf]; omega
        ·have hd : decide (x ∈ Ur r) = false := decide_eq_false hin
         have j2 : Hid (newC (Ur r) (Gr r) (i + 1) = q + 1) := sK (by rw [n1.out, if_neg hin]); rw [hd] at d0; clear hin hd n1; go_wp2_with (go_at_call 65; refine d0.mono ?_; rintro e w' ⟨rfl, rfl⟩); go_roundw
         case rel => exact ⟨i + 1, by omega, by go_num, by rw [j2.out]; simpa using HV.set 1 (.int .i64 ((q : Int) + 1)), o3.setCell (p := ⟨a1, 1, none⟩) (qb _) _⟩
         case measure => simp [intOf]; omega
       ·obtain rfl : i = 4 := by omega
        rw [lC r j0] at hV; have HV := sK hV; have w3 := sK s1; have m0 := sK c1; have s6 := h0.size; have h7 := a2.size; have i7 := c1.size; obtain ⟨v0, v1⟩ := hV.t2; clear hV s1 c1 h0
        by_cases hr2' : r = 2
        ·have hz : ((Nr r : Int) == 0) = true := by rw [hr2']; rfl
         have s2 := o1.below m0.out; have p5 : Hid (Hx wv w2.heap.size Af 2 cf (Value.slice Au (4 * r) cu).ownBlock) := sK (by rw [hr2'] at s2 ⊢; exact s2); have m5 := sK hr2'; clear s2 hr2'; go_wp2; go_ret2; refine ⟨Af, cf, (Value.slice Au (4 * r) cu).ownBlock, by rw [m5.out]; rfl, ?_, Aa (Aa m0 n0.out) m1.out⟩; obtain ⟨vs, g1, g2⟩ := p5.out; refine ⟨vs, Dd g1 m1.size, fun k hk => ?_⟩; obtain ⟨gk, ck, g3, g4, g5, g6⟩ := g2 k hk; exact ⟨gk, ck, g3, g4, g5.mono m1.size, g6⟩
        ·have hz : ((Nr r : Int) == 0) = false := by rcases (by omega : r = 0 ∨ r = 1) with rfl | rfl <;> rfl
         have v4 : r < 2 := by omega
         clear hr2'; have a4 := sK (jC wv wp.heap.size gs 4 cs (Gr r) (Sr r) w3 (fT r j0) (fun x hx => by
          have : ∀ r, r < 3 -> ∀ x ∈ Sr r, x < 7 := by decide
          have := this r j0 x hx; omega) (by omega))
         go_upto_region 27 with (go_at_call 144; refine a4.mono ?_; rintro e w9 ⟨rfl, y4, r0⟩)
         have y0 := sK y4; have e7 := r0.size; have r2 := HV.kept r0 (by simp; omega); have n3 := sK r2; have q1 : Hid (OwnN w9 w2.heap.size Au (4 * r) cu (Ur r)) := sK ((HU.below m0.out).kept' r0 (fun x hx e => by
          have := (HU.row.lt x (by rw [hx]; rfl)).2; simp at e; omega))
         have r3 := sK (qac (Aa m0 n0.out) r0 (Aa m0 n0.out).size (fun k hk => by injection hk with hk; have := n0.size; omega)); have x3 : Hid (Hx w9 w2.heap.size Af r cf (Value.slice Au (4 * r) cu).ownBlock) := sK (by
          obtain ⟨vs, g1, g2⟩ := o1.out; refine ⟨vs, (Ag g1 m0 (qb _)).kept r0 ?_, fun k hk => ?_⟩
          ·cases hob : (Value.slice Af r cf).ownBlock with
           | none => exact .inl rfl
           | some b => exact .inr fun e => by have := (g1.lt b hob).2; simp at e; omega
          ·obtain ⟨gk, ck, g3, g4, g5, g6⟩ := g2 k hk
           exact ⟨gk, ck, g3, g4, (g5.below m0.out).kept' r0 (fun x hx e => by
            have := (g5.row.lt x (by rw [hx]; rfl)).2; simp at e; omega), g6⟩)
         clear v0 v1 y4 r0; obtain ⟨v0, v1⟩ := r2.t2; have p4 : ∀ j u, (ivs (Sr r))[j]? = some u -> w9.cell? (({ block := gs, off := 0 } : Addr).add j) = some u := fun j u hu => by
          obtain ⟨hj, rfl⟩ := Lb hu; have := y0.len; rw [qcg, Zq]; exact y0.cell (by omega)
         have t3 := sK p4; have x4 : (ivs (Sr r)).length = 4 * 1 := by rw [Cl]; exact y0.len
         have y3 := sK x4; have z4 := r3.size; have r1 : Hid (∀ b, (Value.slice Au (4 * r) cu).ownBlock = some b -> b < wo.heap.size ∧ w2.heap.size <= b) := sK fun b hb => ⟨(HU.row.lt b hb).2, (HU.row.lt b hb).1⟩
         have z3 : Hid (∀ A c u, Hx wo w2.heap.size A r c u -> ∀ b, (Value.slice A r c).ownBlock = some b -> b < wo.heap.size) := sK fun A c u h b hb => by
          obtain ⟨vs, g1, _⟩ := h; exact (g1.lt b hb).2
         have o6 := sK (z3 _ _ _ o1.out); clear r2 p4 x4 HU o1 w3 HV a4 z3; go_upto_region 28 with (refine wpList_append_lies _ rfl (.tmp 73) (.tmp 75) 22 rfl w2.heap.size 3 i0 (zQ) 1 8 Tryz.underlying22 a3 i3 j3 l3 rfl (by omega) _ (4 * r) (ivs (Ur r)) rfl q1.row ⟨gs, 0, none⟩ 4 cs (ivs (Sr r)) rfl y3 t3 (Tb _) (by omega) (by unfold maxLen; omega) (by omega) z4 _ rfl ?_; intro g2 o2 e0 s4 o0 x1 b6)
         have c7 := o0.size; have b5 := sK (n3.kept o0 (fun e => by have := (r1 _ e).1; omega)); have b4 : Hid (OwnN e0 w2.heap.size (sQ g2) (4 * r + 4) o2 (Ur (r + 1))) := sK (by
          refine ⟨by rw [bZ r v4, Gm]; exact s4, by rw [bZ r v4]; exact q1.sm.append y0.sm⟩)
         have u3 : Hid (OwnN e0 wp.heap.size (sQ gs) 4 cs (Sr r)) := sK (y0.kept' o0 (fun x hx e => by
          simp only [qc, qd, and_true] at hx; have := (r1 _ e).1; omega))
         have p3 := sK (qac r3 o0 z4 (fun k hk => (r1 k hk).2)); have i5 : Hid (g2 ≠ gs) := sK (fun e => by
          rcases x1 with h1 | h1
          ·have := (r1 _ h1).1; omega
          ·omega)
         have n5 : Hid (Hx e0 w2.heap.size Af r cf (some g2)) := sK (by
          obtain ⟨vs, g1, g4⟩ := x3.out; refine ⟨vs, g1.kept o0 ?_, fun k hk => ?_⟩
          ·cases hob : (Value.slice Af r cf).ownBlock with
           | none => exact .inl rfl
           | some b => exact .inr fun e => Ec g1 q1.row (by decide) hob e.symm
          ·obtain ⟨gk, ck, q3, q4, q5, q6⟩ := g4 k hk
           refine ⟨gk, ck, q3, q4, q5.kept' o0 (fun x hx e => by
            simp only [qc, qd, and_true] at hx; exact q6 (by rw [hx]; exact e)), fun e => ?_⟩
           simp only [qc] at e
           rcases x1 with h1 | h1
           ·have h2 : (Value.slice Au (4 * r) cu).ownBlock = some g2 := h1
            exact q6 (by rw [h2, e])
           ·have := (q5.row.lt gk rfl).2
            omega)
         obtain ⟨vs, e3, w4⟩ := n5.out; have z0 := sK (Ag e3 (Ac e0 (.cells #[.slice (sQ gs) 4 cs, nQ (Nr r)] 146)) (qb _)); have r5 := sK w4; have w0 : Hid (vs.length = r * 2) := sK e3.1; have e4 := b5.out; have r4 : ∀ j u, ([.slice (sQ gs) 4 cs, nQ (Nr r)] : VQ)[j]? = some u -> (e0.alloc (.cells #[.slice (sQ gs) 4 cs, nQ (Nr r)] 146)).cell? (({ block := e0.heap.size, off := 0 } : Addr).add j) = some u := fun j u hu => by
          have h9 := Blk.new e0 #[.slice (sQ gs) 4 cs, nQ (Nr r)] 146; rw [qcg, Zq]; obtain ⟨t, h9⟩ := h9; rw [cell_of_row _ _ _ _ _ _ h9]; simpa using hu
         have j5 := sK r4; have f3 : w2.heap.size <= (e0.alloc (.cells #[.slice (sQ gs) 4 cs, nQ (Nr r)] 146)).heap.size := by have := p3.size; simp; omega
         have p6 := sK x1; clear v0 v1 s4 o0 x1 e3 w4 r4 b6 q1 x3 n3 t3 y3; obtain ⟨v0, v1⟩ := e4.t2; clear e4; go_wp2_with (refine wpList_append_lies _ rfl (.tmp 77) (.tmp 79) 138 rfl w2.heap.size 146 i2 (.agg #[eQ, zQ]) 2 32 Tryz.underlying138 a6 i6 j6 k6 rfl (by omega) _ r vs rfl z0 ⟨e0.heap.size, 0, none⟩ 1 1 [.slice (sQ gs) 4 cs, nQ (Nr r)] rfl rfl j5 (by simp [Value.oneCell']) (by omega) (by unfold maxLen; omega) (by omega) f3 _ rfl ?_; intro g3 d4 a5 u4 i1 d6 c6); have l0 : From e0 (e0.alloc (.cells #[.slice (sQ gs) 4 cs, nQ (Nr r)] 146)) := Ac _ _; have s5 : Hid (OwnN a5 w2.heap.size (sQ g2) (4 * (r + 1)) o2 (Ur (r + 1))) := sK (by
          refine (b4.below l0).kept' i1 (fun x hx e => ?_); exact Ec z0 (b4.below l0).row (by decide) e (by rw [hx]; rfl))
         have d5 := sK (qac (Aa l0 p3.out) i1 f3 (fun k hk => (z0.lt k hk).1)); have o5 : Hid (Hx a5 w2.heap.size (sQ g3) (r + 1) d4 (some g2)) := sK (by
          refine ⟨_, u4, fun k hk => ?_⟩
          by_cases hkr : k < r
          ·obtain ⟨gk, ck, q3, q4, q5, q6⟩ := r5 k hkr
           refine ⟨gk, ck, ?_, ?_, (q5.below l0).kept' i1 (fun x hx e => Ec z0 (q5.below l0).row (by decide) e (by rw [hx]; rfl)), q6⟩
           ·rw [Pq (by have := w0.out; omega)]; exact q3
           ·rw [Pq (by have := w0.out; omega)]; exact q4
          ·obtain rfl : k = r := by omega
           refine ⟨gs, cs, ?_, ?_, ((u3.below l0).kept' i1 (fun x hx e => Ec z0 (u3.below l0).row (by decide) e (by rw [hx]; rfl))).mono (by have := n0.size; omega), fun e => i5 (by injection e)⟩
           ·rw [Gq (by have := w0.out; omega), w0.out, show 2 * k - k * 2 = 0 by omega]; rfl
           ·rw [Gq (by have := w0.out; omega), w0.out, show 2 * k + 1 - k * 2 = 1 by omega]; rfl)
         clear u4 i1 d6 c6 l0 f3; go_roundw
         case rel => exact ⟨r + 1, sQ g3, d4, sQ g2, o2, by omega, rfl, rfl, s5.out, o5.out, d5.out⟩
         case measure => simp [lenV]; omega
theorem fK (w : WQ) (x : Nat) : cQ 380 #[nQ x] w (Ba (.bool false) w) := by
 have h : ((x : Int) != (x : Int)) = false := by simp
 go_enter Tryz.func380, Tryz.ntmps380
 go_wp2
 go_ret
 exact ⟨rfl, rfl⟩
def cmp3 (x y : Nat) : Int := if x < y then -1 else if y < x then 1 else 0
theorem pL (w : WQ) (x y : Nat) : cQ 346 #[nQ x, nQ y] w (Ba (.int .i64 (cmp3 x y)) w) := by
 have HN := sK fun (wx : WQ) (z : Nat) => fK wx z
 by_cases h1 : x < y
 ·have e : cmp3 x y = -1 := by rw [cmp3, if_pos h1]
  rw [e]; clear e; go_enter Tryz.func346, Tryz.ntmps346; go_wp2_with (go_at_call 380; refine (HN _ _).mono ?_; rintro e w' ⟨rfl, rfl⟩); go_ret; exact ⟨rfl, rfl⟩
 ·by_cases h2 : y < x
  ·have e : cmp3 x y = 1 := by rw [cmp3, if_neg h1, if_pos h2]
   rw [e]; clear e; go_enter Tryz.func346, Tryz.ntmps346; go_wp2_with (go_at_call 380; refine (HN _ _).mono ?_; rintro e w' ⟨rfl, rfl⟩); go_ret; exact ⟨rfl, rfl⟩
  ·have e : cmp3 x y = 0 := by rw [cmp3, if_neg h1, if_neg h2]
   rw [e]; clear e; go_enter Tryz.func346, Tryz.ntmps346; go_wp2_with (go_at_call 380; refine (HN _ _).mono ?_; rintro e w' ⟨rfl, rfl⟩); go_ret; exact ⟨rfl, rfl⟩
def cmpL : NQ -> NQ -> Int
 | a :: l, b :: r => if a = b then cmpL l r else cmp3 a b
 | _, _ => 0
theorem bF : ∀ {l r : NQ} {i : Nat}, i < l.length -> i < r.length -> (∀ j, j < i -> l.getD j 0 = r.getD j 0) -> l.getD i 0 ≠ r.getD i 0 -> cmpL l r = cmp3 (l.getD i 0) (r.getD i 0)
 | [], _, _, h, _, _, _ => by simp at h
 | _ :: _, [], _, _, h, _, _ => by simp at h
 | a :: l, b :: r, 0, _, _, _, hn => by
  simp only [qda] at hn ⊢; rw [cmpL, if_neg hn]
 | a :: l, b :: r, i + 1, h1, h2, he, hn => by
  have e0 := he 0 (by omega); simp only [qda] at e0; rw [cmpL, if_pos e0]; simp only [List.getD_cons_succ] at hn ⊢; exact bF (by simpa using h1) (by simpa using h2) (fun j hj => by simpa using he (j + 1) (by omega)) hn
theorem bA : ∀ {l r : NQ}, l.length = r.length -> (∀ j, j < l.length -> l.getD j 0 = r.getD j 0) -> cmpL l r = 0
 | [], _, _, _ => rfl
 | _ :: _, [], h, _ => by simp at h
 | a :: l, b :: r, h, he => by
  have e0 := he 0 (by simp); simp only [qda] at e0; rw [cmpL, if_pos e0]; exact bA (by simpa using h) (fun j hj => by simpa using he (j + 1) (by simpa using hj))
theorem oU {x y : Nat} (h : x ≠ y) : cmp3 x y ≠ 0 := by unfold cmp3; split <;> (try split) <;> omega
theorem Wc (w : WQ) (A B : OQ) (n c d : Nat) (l r : NQ) (hl : RdN w A n c l) (hr : RdN w B n d r) : cQ 273 #[.slice A n c, .slice B n d] w (Ba (.int .i64 (cmpL l r)) w) := by
 have t0 := hl.le63
 have HL := sK hl
 have HR := sK hr
 have f0 := sK hl.len
 have g0 := sK hr.len
 have HC := sK fun (wx : WQ) (x y : Nat) => pL wx x y
 clear hl hr
 go_enter Tryz.func273, Tryz.ntmps273
 go_wp2
 go_loopw [11] (fun b0 wr => ∃ i, i <= n ∧ b0 = nQ i ∧ wr = w ∧ ∀ j, j < i -> l.getD j 0 = r.getD j 0) (fun b0 _ => n - (intOf b0).toNat)
 case atStart => exact ⟨0, qe _, rfl, rfl, fun j hj => by omega⟩
 case round =>
  obtain ⟨i, hi, rfl, c0, hz⟩ := hrel; have HZ := sK hz; have a0 := sK c0; clear hz c0
  by_cases hin : i < n
  ·obtain ⟨b1, y0, hA, _, o0⟩ := (show RdN wr A n c l by rw [a0.out]; exact HL.out).at hin
   obtain ⟨b2, z0, hB, _, q0⟩ := (show RdN wr B n d r by rw [a0.out]; exact HR.out).at hin; subst hA hB; have i0 : (i : Int) < (n : Int) := by omega
   have v0 : ¬ (n : Int) <= (i : Int) := by omega
   have d0 := sK fun h => bF (l := l) (r := r) (i := i) (by rw [f0.out]; exact hin) (by rw [g0.out]; exact hin) HZ h
   have HN : Hid (l.getD i 0 = r.getD i 0 -> ∀ j, j < i + 1 -> l.getD j 0 = r.getD j 0) := sK fun h j hj => by
    by_cases hji : j = i
    ·rw [hji]; exact h
    ·exact HZ j (by omega)
   clear HZ; generalize l.getD i 0 = x at *; generalize r.getD i 0 = y at *
   by_cases he : x = y
   ·have e0 : cmp3 x y = 0 := by rw [he]; simp [cmp3]
    have l0 := sK (HN he); have n0 : ((0 : Int) != 0) = false := rfl; clear he HN d0; go_wp2_with (go_at_call 346; refine (HC wr x y).mono ?_; rw [e0]; rintro e w' ⟨rfl, rfl⟩); go_roundw
    case rel => exact ⟨i + 1, by omega, by go_num, a0.out, l0.out⟩
    case measure => simp [intOf]; omega
   ·have HE := sK (d0 he)
    have n0 : (cmp3 x y != 0) = true := by rw [bne_iff_ne]; exact oU he
    clear he HN d0; go_wp2_with (go_at_call 346; refine (HC wr x y).mono ?_; rintro e w' ⟨rfl, rfl⟩); go_ret; exact ⟨by rw [HE.out]; rfl, a0.symm⟩
  ·obtain rfl : i = n := by omega
   have HE := sK (bA (l := l) (r := r) (by rw [f0.out, g0.out]) (by rw [f0.out]; exact HZ.out)); have i0 : decide ((i : Int) < (i : Int)) = false := by simp
   go_wp2; go_ret; exact ⟨by rw [HE.out]; rfl, a0.symm⟩
def flK (k w : Nat) (l : NQ) : Nat -> Nat
 | 0 => 0
 | i + 1 => flK k w l i + (w + 1 - (k - l.getD i 0))
theorem nF (k w : Nat) (l : NQ) : ∀ i, flK k w l i <= i * (w + 1)
 | 0 => by simp [flK]
 | i + 1 => by
  have := nF k w l i; simp only [flK]; rw [qcl, qbv]; omega
theorem gN (w : WQ) (A : OQ) (n c k v : Nat) (l : NQ) (hr : RdN w A n c l) (hk : k <= 64) (hv : v <= k) (hn : n <= 64) (hl : ∀ i, i < n -> l.getD i 0 <= k) :
  cQ 98 #[nQ k, .slice A n c, nQ v] w (Ba (.tuple #[nQ (flK k v l n), zQ]) w) := by
 have HR := sK hr
 have HL := sK hl
 have g1 : ¬ (k : Int) < 0 := by omega
 have g2 : ¬ (64 : Int) < (k : Int) := by omega
 have g3 : ¬ (v : Int) < 0 := by omega
 have g4 : ¬ (k : Int) < (v : Int) := by omega
 have g5 : ¬ (64 : Int) < (n : Int) := by omega
 clear hr hl
 go_enter Tryz.func98, Tryz.ntmps98
 go_wp2
 go_loopw [8, 33] (fun ov b0 wr => ∃ i, i <= n ∧ b0 = nQ i ∧ ov = nQ (flK k v l i) ∧ wr = w) (fun _ b0 _ => n - (intOf b0).toNat)
 case atStart => exact ⟨0, qe _, rfl, rfl, rfl⟩
 case round =>
  obtain ⟨i, hi, rfl, rfl, c0⟩ := hrel; have a0 := sK c0; clear c0
  by_cases hin : i < n
  ·obtain ⟨b, x0, hA, _, hc⟩ := (show RdN wr A n c l by rw [a0.out]; exact HR.out).at hin
   subst hA; have i0 : (i : Int) < (n : Int) := by omega
   have w0 := HL i hin; have hs : flK k v l (i + 1) = flK k v l i + (v + 1 - (k - l.getD i 0)) := rfl; have r0 : flK k v l i <= 64 * 65 := qs (nF k v l i) (qbx (by omega) (by omega)); have HS := sK hs; clear hs; generalize l.getD i 0 = y at *; generalize flK k v l i = f at *; have y1 : ¬ (y : Int) < 0 := by omega
   have y2 : ¬ (k : Int) < (y : Int) := by omega
   have e1 : IntKind.i64.wrap ((v : Int) + 1) = (v : Int) + 1 := by rw [show (v : Int) + 1 = ((v + 1 : Nat) : Int) by omega]; exact Ay (by omega)
   have e2 : IntKind.i64.wrap ((k : Int) - (y : Int)) = (k : Int) - (y : Int) := by rw [show (k : Int) - (y : Int) = ((k - y : Nat) : Int) by omega]; exact Ay (by omega)
   by_cases hp : v + 1 <= k - y
   ·have e3 : IntKind.i64.wrap ((v : Int) + 1 - ((k : Int) - (y : Int))) = (v : Int) + 1 - ((k : Int) - (y : Int)) := qbz _ ⟨by omega, by omega⟩
    have e4 : max (0 : Int) ((v : Int) + 1 - ((k : Int) - (y : Int))) = 0 := by omega
    have HE : Hid (flK k v l (i + 1) = f) := sK (by rw [HS.out]; omega); have e5 : IntKind.i64.wrap ((f : Int) + 0) = (f : Int) := qbz _ ⟨by omega, by omega⟩ |>.trans (by omega)
    clear hp; go_wp2; go_roundw
    case rel => exact ⟨i + 1, by omega, by go_num, by rw [HE.out], a0.out⟩
    case measure => simp [intOf]; omega
   ·have e3 : IntKind.i64.wrap ((v : Int) + 1 - ((k : Int) - (y : Int))) = (v : Int) + 1 - ((k : Int) - (y : Int)) := qbz _ ⟨by omega, by omega⟩
    have e4 : max (0 : Int) ((v : Int) + 1 - ((k : Int) - (y : Int))) = (v : Int) + 1 - ((k : Int) - (y : Int)) := by omega
    obtain ⟨g, hg⟩ := xQ (f + (v + 1 - (k - y))); have e5 : IntKind.i64.wrap ((f : Int) + ((v : Int) + 1 - ((k : Int) - (y : Int)))) = (g : Int) := (qbz _ ⟨by omega, by omega⟩).trans (by omega); have HE : Hid (flK k v l (i + 1) = g) := sK (by rw [HS.out, hg]); have j0 := sK hg; have m0 := sK hp; clear hp hg; go_wp2; go_roundw
    case rel =>
     have h1 := j0.out; have h2 := m0.out; exact ⟨i + 1, by omega, by go_num, by first | (rw [HE.out, if_pos (by omega)]; congr 1; omega) | rw [HE.out], a0.out⟩
    case measure => simp [intOf]; omega
  ·obtain rfl : i = n := by omega
   go_wp2; go_ret2; exact ⟨rfl, a0.symm⟩
theorem qG (w : WQ) (k : Nat) : cQ 150 #[.int .i64 1, nQ k, .int .i64 65536] w (Ba (.tuple #[.int .i64 1, zQ]) w) := by
 have g1 : ¬ (k : Int) < 0 := by omega
 by_cases h0 : k = 0
 ·subst h0
  go_enter Tryz.func150, Tryz.ntmps150; go_wp2; refine wp_loop_rounds 1 ?_; rw [rounds_succ]; go_wp2; go_ret2; exact ⟨rfl, rfl⟩
 ·have g2 : (0 : Int) < (k : Int) := by omega
  clear h0; go_enter Tryz.func150, Tryz.ntmps150; go_wp2; refine wp_loop_rounds 1 ?_; rw [rounds_succ]; go_wp2; go_ret2; exact ⟨rfl, rfl⟩
theorem Uw {l : NQ} (h : ∀ j, l.getD j 0 = 0) : ∀ i, wtK l i = 0
 | 0 => rfl
 | i + 1 => by unfold wtK; rw [Uw h i, h i]; rfl
theorem rK {v : NQ} (h : wt v ≠ 0) : fnz v < v.length := by
 rcases Nq (fnz v) v.length with h1 | h1
 ·exact h1
 ·exfalso
  apply h; unfold wt; refine Uw (fun j => ?_) _
  by_cases hj : j < v.length
  ·have : v.findIdx (· != 0) = v.length := by
    have := List.findIdx_le_length (p := (· != 0)) (xs := v); unfold fnz at h1; omega
   have h2 := List.findIdx_eq_length.1 this v[j] (qcb hj); rw [qa, qh hj]; simpa using h2
  ·rw [qa, Mq (by omega)]; rfl
theorem aH {v : NQ} : wt v <= v.length := aV v v.length
def bwt (b : NQ) : Nat := if 0 < b.length then wt b else 0
def Hd (b v : NQ) : NQ := if wt v = 0 ∨ (0 < bwt b ∧ bwt b < wt v) then b else if bwt b = 0 ∨ wt v < bwt b ∨ cmpL v b < 0 then v else b
structure SrS (wG w : WQ) (s bg : Nat) (h : Nat -> Value) (b : NQ) (n : Nat) : Prop where
 ex : ∃ Ab cb, Blk w s #[pQ bg, h 1, h 2, h 3, h 4, h 5, h 6, .slice Ab b.length cb, nQ n] ∧ OwnN w 0 Ab b.length cb b ∧ (∀ k, Ab = sQ k -> k ≠ s)
 fr : From wG w
 gf : GFat wG bg F2
 lo : wG.heap.size <= s
 len : b.length = 0 ∨ b.length = 7
 els : Els F2 b
theorem SrS.below {wG w w' : WQ} {s bg : Nat} {h : Nat -> Value} {b : NQ} {n : Nat} (hs : SrS wG w s bg h b n) (hb : From w w') : SrS wG w' s bg h b n := by
 obtain ⟨Ab, cb, h1, h2, h3⟩ := hs.ex
 exact ⟨⟨Ab, cb, h1.below hb, h2.below hb, h3⟩, Aa hb hs.fr, hs.gf, hs.lo, hs.len, hs.els⟩
def nM (wG : WQ) (s bg : Nat) (h : Nat -> Value) (b : NQ) (n : Nat) (w : WQ) (e : Ending) (w' : WQ) : Prop := (∃ v, e = .returned v) ∧ SrS wG w' s bg h b n ∧ w.grownBy w' (some s)
theorem Zt {v : NQ} (hv : Els F2 v) : Bb F2.fld 1 v = v := Ie Ew.fldOk hv
theorem lH (wG w : WQ) (s bg : Nat) (h : Nat -> Value) (b : NQ) (n : Nat) (hs : SrS wG w s bg h b n) (hn9 : n <= 100000) (Av : OQ) (cv : Nat) (v : NQ) (hv : RdN w Av 7 cv v) (hve : Els F2 v) (hvs : ∀ k o, Av = some ⟨k, o, none⟩ -> k ≠ s) :
  cQ 152 #[pQ s, .slice Av 7 cv] w (nM wG s bg h (Hd b v) (n + 1) w) := by
 obtain ⟨Ab, cb, hB, v1, y1⟩ := hs.ex
 have s2 := hs.fr
 have f1 := hs.gf
 have t0 := hs.lo
 have r0 := hs.len
 have p2 := hs.els
 have l0 := hv.len
 have d3 : wt v <= 7 := by rw [<- l0]; exact aH
 have c3 : wt b <= 7 := by rcases r0 with h1 | h1 <;> (have := @aH b; omega)
 have i0 := sK Ik
 have n1 := sK Qv
 have k1 := sK Wc
 unfold Ba at i0 n1 k1
 have q0 := Ad w s 8 (.int .i64 ((n : Int) + 1))
 have h0 := sK q0
 have o0 := hB.set 8 (.int .i64 ((n : Int) + 1))
 have x2 := sK hB
 simp only [qj, qo, qp] at o0
 have g1 := Kt hv q0 (fun k o e _ e2 => hvs k o e (by simpa using e2.symm))
 have c1 := v1.kept' q0 (fun x hx e => y1 x hx (by simpa using e.symm))
 have b1 := s2.setCell (p := ⟨s, 8, none⟩) t0 (.int .i64 ((n : Int) + 1))
 obtain ⟨c0, -, -, -, -, -, -, -, c8⟩ := hB.t9
 have f8 := hB.free 8
 go_enter Tryz.func152, Tryz.ntmps152
 go_upto_region 1 with fail
 obtain ⟨w1, g2⟩ := xQ (w.setCell ⟨s, 8, none⟩ (.int .i64 ((n : Int) + 1)))
 rw [<- g2] at o0 g1 c1 b1 h0 ⊢
 have d0 := sK o0
 have e0 := sK g1
 have y0 := sK c1
 have w0 := sK b1
 clear g2 hB o0 g1 c1 b1 q0 c0 c8 f8 hs v1 hv
 obtain ⟨c0, -, -, -, -, -, -, c7⟩ := d0.t8
 have z0 : Hid (SrS wG w1 s bg h b (n + 1)) := sK ⟨⟨Ab, cb, d0.out, y0.out, y1⟩, w0.out, f1, t0, r0, p2⟩
 have a3 : ((wt v : Nat) : Int) <= 7 := by omega
 have y2 : bwt b <= 7 := by unfold bwt; split <;> omega
 have d1 : ((bwt b : Nat) : Int) <= 7 := by omega
 go_upto_if 23 with fail
 go_cut [4] from 10 to 82 (fun dv wx => dv = nQ (bwt b) ∧ w1 = wx)
 case first =>
  rcases r0 with g0 | g0
  ·have e1 : bwt b = 0 := by unfold bwt; rw [if_neg (by omega)]
   have hz : ¬ (0 : Int) < (b.length : Int) := by omega
   go_wp2; go_meet
   case rel => exact ⟨by rw [e1]; rfl, rfl⟩
  ·have e1 : bwt b = wt b := by unfold bwt; rw [if_pos (by omega)]
   have hz : (0 : Int) < (b.length : Int) := by omega
   have b0 := y0.rd; rw [g0] at b0 c7; have l2 := sK b0; clear b0; go_wp2_with (go_at_call 46; refine (i0 _ _ _ _ _ l2.out).mono ?_; rintro e w' ⟨rfl, rfl⟩); go_meet
   case rel => exact ⟨by rw [e1], rfl⟩
 case rest =>
  obtain ⟨rfl, rfl⟩ := hcut
  by_cases he : wt v = 0 ∨ (0 < bwt b ∧ bwt b < wt v)
  ·have a0 : Hid (Hd b v = b) := sK (by unfold Hd; rw [if_pos he])
   rcases he with m0 | ⟨h1, h2⟩
   ·have i1 : ((wt v : Int) == 0) = true := by simp [m0]
    clear m0; go_wp2_with (go_at_call 46; refine (i0 _ _ _ _ _ e0.out).mono ?_; rintro e w' ⟨rfl, rfl⟩); go_end0; exact ⟨⟨_, rfl⟩, by rw [a0.out]; exact z0.out, h0.out⟩
   ·have i1 : ((wt v : Int) == 0) = false := by rw [beq_eq_false_iff_ne]; omega
    have i2 : (0 : Int) < (bwt b : Int) := by omega
    have t2 : (bwt b : Int) < (wt v : Int) := by omega
    clear h1 h2; go_wp2_with (go_at_call 46; refine (i0 _ _ _ _ _ e0.out).mono ?_; rintro e w' ⟨rfl, rfl⟩); go_end0; exact ⟨⟨_, rfl⟩, by rw [a0.out]; exact z0.out, h0.out⟩
  ·have m0 : wt v ≠ 0 := fun e => he (.inl e)
   have i1 : ((wt v : Int) == 0) = false := by rw [beq_eq_false_iff_ne]; omega
   go_upto_region 5 with (go_at_call 46; refine (i0 _ _ _ _ _ e0.out).mono ?_; rintro e w' ⟨rfl, rfl⟩)
   go_cut [41] from 10 to 82 (fun cv wx => cv = .bool false ∧ w1 = wx)
   case first =>
    by_cases hy0 : bwt b = 0
    ·have i2 : ¬ (0 : Int) < (bwt b : Int) := by omega
     clear he hy0; go_wp2; go_meet
     case rel => exact ⟨rfl, rfl⟩
    ·have i2 : (0 : Int) < (bwt b : Int) := by omega
     have t2 : ¬ (bwt b : Int) < (wt v : Int) := by omega
     clear he hy0; go_wp2; go_meet
     case rel => exact ⟨rfl, rfl⟩
   case rest =>
    obtain ⟨rfl, rfl⟩ := hcut; have j0 := rK m0; have v2 := nR j0; have d2 : nzI v = (fnz v : Int) := by unfold nzI; rw [if_pos j0]
    have c2 : v.getD (fnz v) 0 = 1 := by
     have h2 : v.getD (fnz v) 0 < 2 := hve.at Ew _; omega
    rw [l0] at j0; have r2 : ((fnz v : Nat) : Int) < 7 := by omega
    have q1 := sK d2; have o1 := sK c2; have HE := sK he; have s1 : Hid (∀ wx, From w1 wx -> RdN wx Av 7 cv v) := sK fun wx hx => e0.below hx
    obtain ⟨bv, ov, rfl, _⟩ := e0.at (k := 0) (by omega); obtain ⟨z, hz⟩ := xQ (fnz v); rw [<- hz] at q1 o1 r2 j0; have k2 : Hid (cQ 271 #[.slice (some ⟨bv, ov, none⟩) 7 cv, .func (Fn.func 272) #[] #[]] w1 (fun e w' => e = .returned (nQ z) ∧ w1 = w')) := sK (by have h9 := n1 w1 _ 7 cv v e0.out; rw [q1.out] at h9; exact h9); have m1 : Hid (∀ wx, From w1 wx -> GFat wx bg F2) := sK fun wx hx => f1.below (Aa hx w0.out)
    have j2 : Hid (∀ wx, From w1 wx -> cQ 177 #[pQ bg, .int .i64 1] wx (Bs (.tuple #[.int .i64 1, zQ]) wx)) := sK fun wx hx => Pc wx bg F2 (m1 wx hx) 1 (by decide) (by decide)
    have r1 : Hid (∀ wx, From w1 wx -> cQ 59 #[pQ bg, .int .i64 1, .slice (some ⟨bv, ov, none⟩) 7 cv] wx (RetN 7 v wx)) := sK fun wx hx => by
     have h9 := Iv wx bg F2 (m1 wx hx) 1 (by decide) _ 7 cv v (s1 wx hx) hve (by omega); rw [Zt hve] at h9; exact h9
    unfold RetN at r1; clear hz d2 v2 c2 he m0 i1; go_upto_region 7 with (go_at_call 271; refine k2.mono ?_; rintro e w' ⟨rfl, rfl⟩)
    clear c0 c7; refine wpT 14 83 [.v (pQ s), .v (pQ s), .v (pQ s), .v (pQ bg), .v (.slice (some ⟨bv, ov, none⟩) 7 cv), .v (nQ z), .v (.pointer (some ⟨bv, ov + z, none⟩)), .v (.int .i64 1), .v (.tuple #[.int .i64 1, zQ]), .v (.tuple #[.int .i64 1, zQ]), .v (.int .i64 1), .v (zQ), .v (.int .i64 1), .v (zQ)] w1 (by kernel_rfl) (by kernel_rfl) (by kernel_rfl) rfl ((From.refl w1).drew) ?_; simp only [Tk]
    iterate 7 (refine .z (fun wx hx _ hK => by first | (go_simp; exact Kz hK) | (have o2 := (d0.below hx).c0; go_simp; exact Kz hK)) ?_; simp only [Pt])
    refine .z (fun wx hx KK hK => ?_) ?_
    ·have o2 : wx.cell? ⟨bv, ov + z, none⟩ = some (.int .i64 1) := by have z1 := (s1 wx hx).cellAt j0; rw [o1.out] at z1; exact z1
     go_simp; exact Kz hK
    simp only [Pt]
    iterate 6 (refine .z (fun wx hx _ hK => by first | (go_simp; exact Kz hK) | (go_simp; refine (j2 wx hx).mono ?_; rintro e w' ⟨rfl, j, rfl⟩; exact hK.out _ _ rfl (Ae (bR) _))) ?_; simp only [Pt])
    refine .nil fun w4 j1 _ => ?_
    have x1 := d0.below j1; have c0 := x1.t1; have a1 := sK j1; clear x1 j1; go_upto_region 9 with (go_at_call 59; refine (r1 w4 a1.out).mono ?_; rintro e w5 ⟨A9, c9, rfl, f2, d1⟩)
    have f0 := sK (Aa d1 a1.out); have n0 := sK f2; have v0 := sK (d0.below f0.out); have z2 : s < w4.heap.size := (d0.below a1.out).lt; have x0 : Hid (Hd b v = v -> nM wG s bg h (Hd b v) (n + 1) w (.returned (.tuple #[])) (w5.setCell ⟨s, 7, none⟩ (.slice A9 7 c9))) := sK fun m2 => by
     have a2 := Ad w5 s 7 (.slice A9 7 c9); have u1 := v0.set 7 (.slice A9 7 c9); simp only [qj, qo, qp] at u1; have n2 := n0.kept' a2 (fun x hx e => by
      have := (n0.row.lt x (by rw [hx]; rfl)).1; simp at e; omega)
     refine ⟨⟨_, rfl⟩, ?_, (h0.trans (Aw f0 _)).trans a2⟩; rw [m2]; refine ⟨⟨A9, c9, ?_, ?_, fun k e => ?_⟩, (Aa f0 w0.out).setCell (p := ⟨s, 7, none⟩) t0 _, f1, t0, .inr l0, hve⟩
     ·rw [l0]; exact u1
     ·rw [l0]; exact n2.mono (qe _)
     ·rcases n0.form with ⟨h1, _⟩ | ⟨g, h1, h2, _⟩
      ·rw [h1] at e; cases e
      ·rw [h1] at e
       simp only [qc, qd, and_true] at e; omega
    clear d1 c0 f2; obtain ⟨-, -, -, -, -, -, -, c7⟩ := v0.t8; have f7 := v0.free 7
    by_cases hy0 : bwt b = 0
    ·have a0 : Hid (Hd b v = v) := sK (by unfold Hd; rw [if_neg HE.out, if_pos (.inl hy0)])
     have w2 : ((bwt b : Int) == 0) = true := by simp [hy0]
     clear hy0; go_wp2; go_end0; exact x0 a0.out
    have w2 : ((bwt b : Int) == 0) = false := by rw [beq_eq_false_iff_ne]; omega
    by_cases hlt : wt v < bwt b
    ·have a0 : Hid (Hd b v = v) := sK (by unfold Hd; rw [if_neg HE.out, if_pos (.inr (.inl hlt))])
     have u2 : (wt v : Int) < (bwt b : Int) := by omega
     clear hlt hy0; go_wp2; go_end0; exact x0 a0.out
    have g0 : b.length = 7 := by
     rcases r0 with h1 | h1
     ·exfalso; apply hy0; unfold bwt; rw [if_neg (by omega)]
     ·exact h1
    have b0 := (y0.below f0.out).rd; rw [g0] at c7 b0; have l1 := sK (k1 w5 A9 Ab 7 c9 cb v b n0.rd b0); have u2 : ¬ (wt v : Int) < (bwt b : Int) := by omega
    by_cases hcm : cmpL v b < 0
    ·have a0 : Hid (Hd b v = v) := sK (by unfold Hd; rw [if_neg HE.out, if_pos (.inr (.inr hcm))])
     clear hlt hy0 b0 g0; go_wp2_with (go_at_call 273; refine l1.mono ?_; rintro e w' ⟨rfl, rfl⟩); go_end0; exact x0 a0.out
    have a0 : Hid (Hd b v = b) := sK (by unfold Hd; rw [if_neg HE.out, if_neg (by omega)]); clear hlt hy0 b0 g0; go_wp2_with (go_at_call 273; refine l1.mono ?_; rintro e w' ⟨rfl, rfl⟩); go_end0; exact ⟨⟨_, rfl⟩, by rw [a0.out]; exact z0.below f0.out, h0.trans (Aw f0 _)⟩
end Go.Proofs.YtoalkldfhkabnaaGreatDoor
