/- The walk of the law SemiringLeastPaths. -/
import Derived.Test.YtjadgomakoaibaaRefFwdLst
import Derived.Test.YtjadgomakoaibaaFwdLst
import Derived.Test.YtjadgomakoaibaaLeastW
import Derived.Test.YtjadgomakoaibaaLst5
import Derived.Test.YtjadgomakoaibaaFew
import Derived.Test.YtjadgomakoaibaaBoxG
namespace Go.Proofs.Ytjadgomakoaibaa
open Go.RowKit
set_option maxHeartbeats 8000000 in
set_option maxRecDepth 100000 in
theorem law_SemiringLeastPaths (w : World) (AW : Option Addr) (nW cW : Nat) (Ws : List Int) (AE : Option Addr) (nE cE : Nat) (ee : List (List EdgeT)) (hW : RdI w AW nW cW Ws) (hE : RdEE w AE nE cE ee)
    (A : Option Addr) (n c : Nat) (V : List (List Int)) (hV : RdR intC 0 w 1 A n c V) (hn : n ≤ 35184372088832) :
    Calls Try.prog 4 #[.agg #[.slice AW nW cW, .slice AE nE cE, .slice A n c]] w (Makes (.bool true) w) := by
  obtain ⟨W0, hW0, hS, hz, hc0, hc1, hc2⟩ := boxG w AW nW cW AE nE cE A n c
  have h1 := hW.below hS
  have h2 := hE.below hS
  have h3 := hV.below hS
  have HW := hide hW0
  have hcells : ∀ w', Below W0.heap.size W0 w' → w'.cell? ⟨w.heap.size, 0, none⟩ = some (.slice AW nW cW) ∧ w'.cell? ⟨w.heap.size, 1, none⟩ = some (.slice AE nE cE) ∧ w'.cell? ⟨w.heap.size, 2, none⟩ = some (.slice A n c) := fun w' hb =>
    ⟨(hb.cell (p := ⟨w.heap.size, 0, none⟩) hz).trans hc0, (hb.cell (p := ⟨w.heap.size, 1, none⟩) hz).trans hc1, (hb.cell (p := ⟨w.heap.size, 2, none⟩) hz).trans hc2⟩
  have HCELLS := hide hcells
  have HLENW := hide hW.len
  have HLENE := hide hE.len
  have HLENV := hide hV.len
  clear hW0 hc0 hc1 hc2 hz hW hE hV hcells
  go_enter Try.func4, Try.ntmps4
  go_upto_region 1 with (fail)
  rw [← HW.out]
  go_wp2_with fail
  refine (alive_any _).mono ?_
  rintro e w1 ⟨rfl, hb1⟩
  obtain ⟨hc0, hc1, hc2⟩ := HCELLS.out w1 hb1
  go_wp2_with fail
  refine (few_any w1 AW nW cW Ws AE nE cE ee (h1.below hb1) (h2.below hb1) A n c _ (h3.below hb1).lens hn 1000 (by omega)).mono ?_
  rintro e w2 ⟨q, rfl, hb2⟩
  have hB := hb1.trans (hb2.mono hb1.size)
  clear hc0 hc1 hc2 hb1 hb2
  cases q with
  | false =>
    go_wp2
    go_ret
    exact ⟨rfl, below_step hB hS⟩
  | true =>
    obtain ⟨hc0, hc1, hc2⟩ := HCELLS.out w2 hB
    obtain ⟨W, hWd⟩ : ∃ W : World, W = w2 := ⟨_, rfl⟩
    subst hWd
    have C0 := hide (stays hc0)
    have C1 := hide (stays hc1)
    have C2 := hide (stays hc2)
    clear hc0 hc1 hc2
    by_cases hf : fitsV Ws ee (V.map List.length) = 0
    · have HF := hide hf
      obtain ⟨hshape, hlens⟩ := fits_zero hf
      have hLay := layered_of_shape hshape
      have hl1 := hLay.len
      have hl2 := hLay.few
      have hlenV : V.length = ee.length := by have := congrArg List.length hlens; simpa using this
      have hsz : nW = nE + 1 ∧ n = nE ∧ nE ≤ 64 := by have := HLENW.out; have := HLENE.out; have := HLENV.out; omega
      have HSZ := hide hsz
      have HLay := hide hLay
      have hLENS0 : ∀ i, i < n → (V.getD i []).length = (ee.getD i []).length := fun i hi => by
        have h8 := congrArg (fun l : List Nat => l.getD i 0) hlens
        have := HLENV.out
        simpa [List.getD_eq_getElem?_getD, show i < V.length by omega, show i < ee.length by omega] using h8
      have HLENS := hide hLENS0
      have hrow : ∀ i, i < n → (V.getD i []).length ≤ 8796093022208 := fun i hi => by
        have h8 := hLENS0 i hi
        have h9 := hLay.edges i (by have := HLENV.out; omega)
        omega
      have HROW := hide hrow
      have HLV := hide hlenV
      clear hf hshape hlens hLay hl1 hl2 hlenV hsz hLENS0 hrow
      go_wp2_with fail
      refine wp_region_tab 7 134 [IsV (.pointer (some ⟨w.heap.size, 0, none⟩)), IsV (.agg #[.slice AW nW cW, .slice AE nE cE]), IsV (.pointer (some ⟨w.heap.size, 2, none⟩)), IsV (.slice A n c), IsI (natI (V.map List.length)), IsV (.int .i64 0), IsV (.bool false)] (From W) (by kernel_rfl) (by kernel_rfl) (by kernel_rfl) rfl From.lasts (From.drew (From.refl W)) ?_
      simp only [List.take_succ_cons, List.drop_succ_cons, List.take_nil, List.drop_nil]
      refine Tab.cons IsV.lasting (fun wx hx hd => ?_) (fun v17 => ?_)
      · skip
        clear hd
        intro KK hK
        go_simp
        exact hK.out _ _ rfl (Below.refl _ _)
      simp only [Act.put, List.setIfInBounds_toArray, List.set_cons_zero, List.set_cons_succ]
      refine Tab.cons IsV.lasting (fun wx hx hd => ?_) (fun v18 => ?_)
      · skip
        have e17 : v17 = _ := (hd _ (.head _) (by kernel_rfl) : (IsV (.pointer (some ⟨w.heap.size, 0, none⟩))) v17 wx)
        subst e17
        clear hd
        intro KK hK
        have hcell0 := C0.out _ hx
        have hcell1 := C1.out _ hx
        go_simp
        exact hK.out _ _ rfl (Below.refl _ _)
      simp only [Act.put, List.setIfInBounds_toArray, List.set_cons_zero, List.set_cons_succ]
      refine Tab.cons IsV.lasting (fun wx hx hd => ?_) (fun v19 => ?_)
      · skip
        clear hd
        intro KK hK
        go_simp
        exact hK.out _ _ rfl (Below.refl _ _)
      simp only [Act.put, List.setIfInBounds_toArray, List.set_cons_zero, List.set_cons_succ]
      refine Tab.cons IsV.lasting (fun wx hx hd => ?_) (fun v20 => ?_)
      · skip
        have e19 : v19 = _ := (hd _ (.head _) (by kernel_rfl) : (IsV (.pointer (some ⟨w.heap.size, 2, none⟩))) v19 wx)
        subst e19
        clear hd
        intro KK hK
        have hcell0 := C2.out _ hx
        go_simp
        exact hK.out _ _ rfl (Below.refl _ _)
      simp only [Act.put, List.setIfInBounds_toArray, List.set_cons_zero, List.set_cons_succ]
      refine Tab.cons IsI.lasting (fun wx hx hd => ?_) (fun v21 => ?_)
      · skip
        have e20 : v20 = _ := (hd _ (.head _) (by kernel_rfl) : (IsV (.slice A n c)) v20 wx)
        subst e20
        clear hd
        intro KK hK
        go_simp
        refine (counts_any _ A n c _ (h3.below (hB.trans (hx.out.mono hB.size))).lens hn).mono ?_
        rintro e w' ⟨A', n', c', rfl, h', hb'⟩
        exact hK.out _ _ ⟨A', n', c', rfl, h'⟩ hb'
      simp only [Act.put, List.setIfInBounds_toArray, List.set_cons_zero, List.set_cons_succ]
      refine Tab.cons IsV.lasting (fun wx hx hd => ?_) (fun v22 => ?_)
      · skip
        have e18 : v18 = _ := (hd _ (.tail _ (.tail _ (.tail _ (.head _)))) (by kernel_rfl) : (IsV (.agg #[.slice AW nW cW, .slice AE nE cE])) v18 wx)
        subst e18
        obtain ⟨A21, n21, c21, rfl, h21⟩ := (hd _ (.head _) (by kernel_rfl) : (IsI (natI (V.map List.length))) v21 wx)
        clear hd
        intro KK hK
        go_simp
        have hct := fits_any _ AW nW cW Ws AE nE cE ee (h1.below (hB.trans (hx.out.mono hB.size))) (h2.below (hB.trans (hx.out.mono hB.size))) _ _ _ _ h21
        rw [HF.out] at hct
        refine hct.mono ?_
        rintro e w' ⟨rfl, hb'⟩
        exact hK.out _ _ rfl hb'
      simp only [Act.put, List.setIfInBounds_toArray, List.set_cons_zero, List.set_cons_succ]
      refine Tab.cons IsV.lasting (fun wx hx hd => ?_) (fun v23 => ?_)
      · skip
        have e22 : v22 = _ := (hd _ (.head _) (by kernel_rfl) : (IsV (.int .i64 0)) v22 wx)
        subst e22
        clear hd
        intro KK hK
        go_simp
        exact hK.out _ _ rfl (Below.refl _ _)
      simp only [Act.put, List.setIfInBounds_toArray, List.set_cons_zero, List.set_cons_succ]
      refine Tab.nil fun wx hx hd => ?_
      have e23 : v23 = _ := (hd _ (.head _) : (IsV (.bool false)) v23 wx)
      subst e23
      clear hd
      replace hx := hx.out
      have hB9 := hB.trans (hx.mono hB.size)
      clear hB
      obtain ⟨hc0, hc1, hc2⟩ := HCELLS.out _ hB9
      go_wp2_with fail
      refine (brought_any _ A n c V (h3.below hB9) (by have := HSZ.out; omega) HROW.out).mono ?_
      rintro e wn ⟨GN, nN, cN, vsN, rfl, hGN, hbn⟩
      have hB := hB9.trans (hbn.mono hB9.size)
      have hN := hGN.rd
      clear hc0 hc1 hc2 hGN hbn hB9 C0 C1 C2 hx
      obtain ⟨B, hBv⟩ : ∃ B, B = V.map fun l => l.map bringOf := ⟨_, rfl⟩
      have HBR := hide (bring_at V)
      have HBL := hide (map_lens bringOf V)
      rw [← hBv] at hN HBR HBL
      clear hBv
      have hlB : B.length = n := by have h9 := congrArg List.length HBL.out; rw [List.length_map, List.length_map] at h9; have := HLENV.out; omega
      obtain rfl : n = nN := by have := hN.len; omega
      have HLB := hide hlB
      have hrowB : ∀ i, i < n → (B.getD i []).length ≤ 262144 := fun i hi => by
        have h7 := lens_row HBL.out i
        have h8 := HLENS.out i hi
        have h9 := HLay.out.edges i (by have := HLENE.out; have := HSZ.out; omega)
        omega
      have HRB := hide hrowB
      have hn64 : n ≤ 64 := by have := HSZ.out; omega
      obtain ⟨i1, hi1, hz1, hz2, hz3⟩ := info_parts Try.infoRowlst
      obtain ⟨i0, hy0, hy1, hy2, hy3⟩ := info_parts Try.infoLst
      clear hlB hrowB
      go_wp2_with (at_make; refine wpList_make_row _ rfl _ _ _ 48 rfl i1 _ 1 24 Try.underlying47 hi1 hz1 hz2 hz3 _ _ _ _ n rfl rfl rfl rfl (by omega) (by unfold maxLen; omega) ?_; intro w1 hown1 hb1)
      rw [madeCells_one (show (Value.slice none 0 0).cells = #[Value.slice none 0 0] from rfl)] at hown1
      have hgr := GridR.made (leastC 1) (.inl 0) wn wn.heap.size 48 51 2 n hown1
      clear hown1
      go_loopw [5, 6] (fun iv _ wr => ∃ (i : Nat) (vs : List Value), i ≤ n ∧ iv = .int .i64 (i : Int) ∧ GridR (leastC 1) (.inl 0) wr wn.heap.size 48 51 2 (some ⟨wn.heap.size, 0, none⟩) n n vs (flatR (rowsBy (fun i => (B.getD i []).map onceW) n i [])) ∧ Below wn.heap.size wn wr) (fun iv _ _ => n - (intOf iv).toNat)
      case atStart => exact ⟨0, _, Nat.zero_le _, rfl, by rw [rowsBy_zero, flatR_empty]; exact hgr, hb1⟩
      case round =>
        clear hgr hb1
        obtain ⟨i, vs, hi, rfl, hG, hS1⟩ := hrel
        by_cases hlt : i < n
        · obtain ⟨bV, oV, Ai, mi, ei, rfl, hbV, hcV, hrd⟩ := hN.at hlt
          have hcell := (hS1.cell (p := ⟨bV, oV + i, none⟩) hbV).trans hcV
          have hmi63 := hrd.le63
          have HLI := hide hrd.len
          have hmi : mi ≤ 262144 := by
            have h1 := HRB.out i hlt
            have h2 := hrd.len
            omega
          have HCV := hide hcV
          have HIL := hide hlt
          obtain ⟨rows, g1, g2, g3, g4⟩ := hG.ex
          have hslot := g1.slot hlt
          have hfree := g1.slotFree i
          obtain ⟨sA, sn, sc, hsl⟩ : ∃ A n c, vs.getD i undef = .slice A n c := by
            rcases g1.form hlt with ⟨h9, _⟩ | ⟨b, m, d, h9, _⟩
            · exact ⟨_, _, _, h9⟩
            · exact ⟨_, _, _, h9⟩
          rw [hsl] at hslot
          have HSL := hide (And.intro hslot hfree)
          have HLT := hide (World.block_lt_of_cell? wr _ hslot)
          clear g1 g2 g3 g4 hslot hfree hsl hcV
          obtain ⟨wo, rfl⟩ : ∃ wo : World, wo = wr := ⟨_, rfl⟩
          generalize hxs : B.getD i [] = xs at *
          have HXS := hide hxs
          clear hxs
          go_wp2_with (at_make; refine wpList_make_row _ rfl _ _ _ 51 rfl i0 _ 2 32 Try.underlying48 hy0 hy1 hy2 hy3 _ _ _ _ mi rfl rfl rfl rfl (by omega) (by unfold maxLen; omega) ?_; intro w1 hown1 hb1; have hcs := (hb1.cell (p := ⟨wn.heap.size, i, none⟩) HLT.out).trans HSL.out.1; have hcf := (hb1.frozen (p := ⟨wn.heap.size, i, none⟩) HLT.out).trans HSL.out.2)
          have hGp := hG.putNew hlt hS1.size (l := flatL (List.replicate mi ((0, 0) : LW))) (madeW_len mi) hown1 hb1 (fun x v h9 => leastC_set ((leastC 1).last _ _ _ _ hb1 h9) hcs) (fun k hk => madeW_rel _ hk)
          rw [flatR_set, rowsBy_set hlt] at hGp
          have hBp := (hS1.trans (hb1.mono hS1.size)).setCell (p := ⟨wn.heap.size, i, none⟩) (Nat.le_refl _) (.slice (some ⟨wo.heap.size, 0, none⟩) mi mi)
          obtain ⟨vs', hvs'⟩ : ∃ v9, v9 = vs.set i (.slice (some ⟨wo.heap.size, 0, none⟩) mi mi) := ⟨_, rfl⟩
          rw [← hvs'] at hGp
          clear hvs' hown1 hb1 hG hcell hcs hcf
          go_loopw [6] (fun jv wr => ∃ j : Nat, j ≤ mi ∧ jv = .int .i64 (j : Int) ∧ GridR (leastC 1) (.inl 0) wr wn.heap.size 48 51 2 (some ⟨wn.heap.size, 0, none⟩) n n vs' (flatR (rowsBy (fun i => (B.getD i []).map onceW) n i ((xs.take j).map onceW ++ List.replicate (mi - j) ((0, 0) : LW)))) ∧ Below wn.heap.size wn wr) (fun jv _ => mi - (intOf jv).toNat)
          case atStart => exact ⟨0, Nat.zero_le _, rfl, by simpa using hGp, hBp⟩
          case round =>
            clear hGp hBp hS1
            obtain ⟨j, hj, rfl, hG, hS2⟩ := hrel
            have hcell := (hS2.cell (p := ⟨bV, oV + i, none⟩) hbV).trans HCV.out
            by_cases hltj : j < mi
            · obtain ⟨bi, oi, vX, rfl, hbi, hcX, hvX⟩ := hrd.at1 hltj
              obtain ⟨rfl, hzr1, hzr2⟩ := hvX
              have hrw : (rowsBy (fun i => (B.getD i []).map onceW) n i ((xs.take j).map onceW ++ List.replicate (mi - j) ((0, 0) : LW))).getD i [] = ((xs.take j).map onceW ++ List.replicate (mi - j) ((0, 0) : LW)) := by
                rw [rowsBy_row hlt, if_neg (by omega), if_pos rfl]
              have HROW := hide hrw
              have hxl : xs.length = mi := by have := HLI.out; omega
              have HSET := hide (take_map_set onceW ((0, 0) : LW) (0 : Int) hxl hltj)
              have hlr : ((rowsBy (fun i => (B.getD i []).map onceW) n i ((xs.take j).map onceW ++ List.replicate (mi - j) ((0, 0) : LW))).getD i []).length = mi := by
                rw [hrw, List.length_append, List.length_map, List.length_replicate, List.length_take]; omega
              obtain ⟨b0, m0, e0, hv0, hsl0, hb0a, hb0b, _, _, hlm0⟩ := hG.row hlt (by rw [flatR_row, flatL_length]; omega)
              rw [flatR_row, flatL_length] at hlm0
              obtain ⟨A7, n7, c7, hxL, hxL2, _, _, hfL, hfL2⟩ := hG.cellW hlt hv0 (k := j) (by omega)
              have HRG := hide (And.intro hv0 (Nat.lt_of_lt_of_eq hltj hlr.symm))
              obtain ⟨W, hWd⟩ : ∃ W : World, W = wr := ⟨_, rfl⟩
              subst hWd
              have K0 := hide (stays hsl0)
              have KL := hide (stays hxL)
              have KL2 := hide (stays hxL2)
              have KF := hide (staysF hxL hfL)
              have KF2 := hide (staysF hxL2 hfL2)
              have KV := hide (stays hcell)
              have KX := hide (stays ((hS2.cell (p := ⟨bi, oi + j, none⟩) hbi).trans hcX))
              have q1 : (j : Int) < (m0 : Int) := by omega
              have q4 : (i : Int) < (n : Int) := by omega
              have q5 : (j : Int) < (mi : Int) := by omega
              clear hrw hxl hlr hsl0 hv0 hlm0 hxL hfL hxL2 hfL2 hcX hcell
              generalize xs.getD j 0 = x at *
              have hcell := KV.out _ (From.refl W)
              go_wp2_with fail
              refine wp_region_tab 14 134 [IsV (.slice (some ⟨wn.heap.size, 0, none⟩) n n), IsV (.int .i64 (i : Int)), IsV (.pointer (some ⟨wn.heap.size, i, none⟩)), IsV (.slice (some ⟨b0, 0, none⟩) m0 e0), IsV (.int .i64 (j : Int)), IsV (.slice (some ⟨bV, oV, none⟩) n cN), IsV (.int .i64 (i : Int)), IsV (.pointer (some ⟨bV, oV + i, none⟩)), IsV (.slice (some ⟨bi, oi, none⟩) mi ei), IsV (.int .i64 (j : Int)), IsV (.pointer (some ⟨bi, oi + j, none⟩)), IsV (.int .i64 x), IsNum 1 1, IsL40 x 1 1] (From W) (by kernel_rfl) (by kernel_rfl) (by kernel_rfl) rfl From.lasts (From.drew (From.refl W)) ?_
              simp only [List.take_succ_cons, List.drop_succ_cons, List.take_zero, List.drop_zero]
              refine Tab.cons IsV.lasting (fun wx hx hd => ?_) (fun v54 => ?_)
              · skip
                clear hd
                intro KK hK
                go_simp
                exact hK.out _ _ rfl (Below.refl _ _)
              simp only [Act.put, List.setIfInBounds_toArray, List.set_cons_zero, List.set_cons_succ]
              refine Tab.cons IsV.lasting (fun wx hx hd => ?_) (fun v55 => ?_)
              · skip
                clear hd
                intro KK hK
                go_simp
                exact hK.out _ _ rfl (Below.refl _ _)
              simp only [Act.put, List.setIfInBounds_toArray, List.set_cons_zero, List.set_cons_succ]
              refine Tab.cons IsV.lasting (fun wx hx hd => ?_) (fun v56 => ?_)
              · skip
                have e54 : v54 = _ := (hd _ (.tail _ (.head _)) (by kernel_rfl) : (IsV (.slice (some ⟨wn.heap.size, 0, none⟩) n n)) v54 wx)
                subst e54
                have e55 : v55 = _ := (hd _ (.head _) (by kernel_rfl) : (IsV (.int .i64 (i : Int))) v55 wx)
                subst e55
                clear hd
                intro KK hK
                go_simp
                exact hK.out _ _ rfl (Below.refl _ _)
              simp only [Act.put, List.setIfInBounds_toArray, List.set_cons_zero, List.set_cons_succ]
              refine Tab.cons IsV.lasting (fun wx hx hd => ?_) (fun v57 => ?_)
              · skip
                have e56 : v56 = _ := (hd _ (.head _) (by kernel_rfl) : (IsV (.pointer (some ⟨wn.heap.size, i, none⟩))) v56 wx)
                subst e56
                clear hd
                intro KK hK
                have hcell0 := K0.out _ hx
                go_simp
                exact hK.out _ _ rfl (Below.refl _ _)
              simp only [Act.put, List.setIfInBounds_toArray, List.set_cons_zero, List.set_cons_succ]
              refine Tab.cons IsV.lasting (fun wx hx hd => ?_) (fun v58 => ?_)
              · skip
                clear hd
                intro KK hK
                go_simp
                exact hK.out _ _ rfl (Below.refl _ _)
              simp only [Act.put, List.setIfInBounds_toArray, List.set_cons_zero, List.set_cons_succ]
              refine Tab.cons IsV.lasting (fun wx hx hd => ?_) (fun v59 => ?_)
              · skip
                clear hd
                intro KK hK
                go_simp
                exact hK.out _ _ rfl (Below.refl _ _)
              simp only [Act.put, List.setIfInBounds_toArray, List.set_cons_zero, List.set_cons_succ]
              refine Tab.cons IsV.lasting (fun wx hx hd => ?_) (fun v60 => ?_)
              · skip
                clear hd
                intro KK hK
                go_simp
                exact hK.out _ _ rfl (Below.refl _ _)
              simp only [Act.put, List.setIfInBounds_toArray, List.set_cons_zero, List.set_cons_succ]
              refine Tab.cons IsV.lasting (fun wx hx hd => ?_) (fun v61 => ?_)
              · skip
                have e59 : v59 = _ := (hd _ (.tail _ (.head _)) (by kernel_rfl) : (IsV (.slice (some ⟨bV, oV, none⟩) n cN)) v59 wx)
                subst e59
                have e60 : v60 = _ := (hd _ (.head _) (by kernel_rfl) : (IsV (.int .i64 (i : Int))) v60 wx)
                subst e60
                clear hd
                intro KK hK
                go_simp
                exact hK.out _ _ rfl (Below.refl _ _)
              simp only [Act.put, List.setIfInBounds_toArray, List.set_cons_zero, List.set_cons_succ]
              refine Tab.cons IsV.lasting (fun wx hx hd => ?_) (fun v62 => ?_)
              · skip
                have e61 : v61 = _ := (hd _ (.head _) (by kernel_rfl) : (IsV (.pointer (some ⟨bV, oV + i, none⟩))) v61 wx)
                subst e61
                clear hd
                intro KK hK
                have hcell0 := KV.out _ hx
                go_simp
                exact hK.out _ _ rfl (Below.refl _ _)
              simp only [Act.put, List.setIfInBounds_toArray, List.set_cons_zero, List.set_cons_succ]
              refine Tab.cons IsV.lasting (fun wx hx hd => ?_) (fun v63 => ?_)
              · skip
                clear hd
                intro KK hK
                go_simp
                exact hK.out _ _ rfl (Below.refl _ _)
              simp only [Act.put, List.setIfInBounds_toArray, List.set_cons_zero, List.set_cons_succ]
              refine Tab.cons IsV.lasting (fun wx hx hd => ?_) (fun v64 => ?_)
              · skip
                have e62 : v62 = _ := (hd _ (.tail _ (.head _)) (by kernel_rfl) : (IsV (.slice (some ⟨bi, oi, none⟩) mi ei)) v62 wx)
                subst e62
                have e63 : v63 = _ := (hd _ (.head _) (by kernel_rfl) : (IsV (.int .i64 (j : Int))) v63 wx)
                subst e63
                clear hd
                intro KK hK
                go_simp
                exact hK.out _ _ rfl (Below.refl _ _)
              simp only [Act.put, List.setIfInBounds_toArray, List.set_cons_zero, List.set_cons_succ]
              refine Tab.cons IsV.lasting (fun wx hx hd => ?_) (fun v65 => ?_)
              · skip
                have e64 : v64 = _ := (hd _ (.head _) (by kernel_rfl) : (IsV (.pointer (some ⟨bi, oi + j, none⟩))) v64 wx)
                subst e64
                clear hd
                intro KK hK
                have hcell0 := KX.out _ hx
                go_simp
                exact hK.out _ _ rfl (Below.refl _ _)
              simp only [Act.put, List.setIfInBounds_toArray, List.set_cons_zero, List.set_cons_succ]
              refine Tab.cons IsNum.lasting (fun wx hx hd => ?_) (fun v66 => ?_)
              · skip
                clear hd
                intro KK hK
                go_simp
                exact hK.out _ _ ⟨_, _, _, rfl, rd_lit1 _ rfl _ rfl (by omega) (by omega), Nat.le_refl _⟩ (below_alloc _ _)
              simp only [Act.put, List.setIfInBounds_toArray, List.set_cons_zero, List.set_cons_succ]
              refine Tab.cons IsL40.lasting (fun wx hx hd => ?_) (fun v67 => ?_)
              · skip
                have e65 : v65 = _ := (hd _ (.tail _ (.head _)) (by kernel_rfl) : (IsV (.int .i64 x)) v65 wx)
                subst e65
                obtain ⟨A66, n66, c66, rfl, h66, k66⟩ := (hd _ (.head _) (by kernel_rfl) : (IsNum 1 1) v66 wx)
                clear hd
                intro KK hK
                go_simp
                exact hK.out _ _ ⟨A66, n66, c66, rfl, h66, k66⟩ (Below.refl _ _)
              simp only [Act.put, List.setIfInBounds_toArray, List.set_cons_zero, List.set_cons_succ]
              refine Tab.nil fun wx hx hd => ?_
              have e57 : v57 = _ := (hd _ (.tail _ (.tail _ (.tail _ (.tail _ (.tail _ (.tail _ (.tail _ (.tail _ (.tail _ (.tail _ (.head _))))))))))) : (IsV (.slice (some ⟨b0, 0, none⟩) m0 e0)) v57 wx)
              subst e57
              have e58 : v58 = _ := (hd _ (.tail _ (.tail _ (.tail _ (.tail _ (.tail _ (.tail _ (.tail _ (.tail _ (.tail _ (.head _)))))))))) : (IsV (.int .i64 (j : Int))) v58 wx)
              subst e58
              obtain ⟨A67, n67, c67, rfl, h67, k67⟩ := (hd _ (.head _) : (IsL40 x 1 1) v67 wx)
              clear hd
              have hcellL := KL.out _ hx
              have hcellL2 := KL2.out _ hx
              have hfrL := KF.out _ hx
              have hfrL2 := KF2.out _ hx
              have hGs := (hG.below hx.out).store2 (i := i) hlt HRG.out.1 (k := j) HRG.out.2 (x := onceW x) ⟨hzr1, hzr2⟩ h67 k67
              have hBs : Below wn.heap.size wn ((wx.setCell ⟨b0, j * 2, none⟩ (.int .i64 x)).setCell ⟨b0, j * 2 + 1, none⟩ (.slice A67 n67 c67)) := ((hS2.trans (hx.out.mono hS2.size)).setCell hb0a _).setCell hb0a _
              have hsame := HSET.out
              unfold set2 at hGs
              rw [HROW.out, hsame, rowsBy_set HIL.out] at hGs
              have HGS := hide (And.intro hGs hBs)
              clear hsame hGs hBs hG hS2 q4
              go_wp2
              go_roundw
              case rel => exact ⟨j + 1, by omega, by go_num, HGS.out.1, HGS.out.2⟩
              case measure => simp [intOf]; omega
            · obtain rfl : j = mi := by omega
              have hall : (xs.take j).map onceW ++ List.replicate (j - j) ((0, 0) : LW) = (B.getD i []).map onceW := by
                rw [Nat.sub_self, List.replicate_zero, List.append_nil, List.take_of_length_le (by have := HLI.out; omega), HXS.out]
              rw [hall] at hG
              have HNX2 : Hid (rowsBy (fun i => (B.getD i []).map onceW) n i ((B.getD i []).map onceW) = rowsBy (fun i => (B.getD i []).map onceW) n (i + 1) []) := rowsBy_next _ n i
              rw [HNX2.out] at hG
              clear hall
              go_wp2
              go_roundw
              case rel => exact ⟨i + 1, vs', by omega, by go_num, hG, hS2⟩
              case measure => simp [intOf]; omega
        · obtain rfl : n = i := by omega
          have hend := rowsBy_end (fun i => (B.getD i []).map onceW) n
          have hmr := map_rows onceW B
          rw [HLB.out] at hmr
          rw [hend, hmr] at hG
          have hrV := hG.rd
          clear hG hend hmr hlt
          have hN2 := hN.below hS1
          have hBw := hB.trans (hS1.mono hB.size)
          clear hB hN hS1
          obtain ⟨hc0, hc1, hc2⟩ := HCELLS.out _ hBw
          obtain ⟨VL, hVL⟩ : ∃ VL, VL = B.map fun l => l.map onceW := ⟨_, rfl⟩
          have HVC := hide (once_can HBR.out)
          have HVS := hide ((map_lens onceW B).trans HBL.out)
          have HON := hide (fwdAll_once ee B (set2 (initR Ws ((infW, 0) : LW)) 0 0 ((0, 1) : LW)) 0)
          have HFF := hide (fin_facts HLay.out HBR.out)
          rw [← hVL] at hrV HVC HVS HON
          clear hVL
          obtain ⟨FIN, hFIN⟩ : ∃ F, fwdAll ((infW, 0) : LW) upLI (set2 (initR Ws ((infW, 0) : LW)) 0 0 ((0, 1) : LW)) 0 ee B = F := ⟨_, rfl⟩
          rw [hFIN] at HON HFF
          have HFIN := hide hFIN
          clear hFIN
          have hnn : ¬ (n : Int) < (n : Int) := by omega
          go_wp2_with fail
          refine (forward_lst _ AW nW cW Ws AE nE cE ee (h1.below hBw) (h2.below hBw) _ _ _ VL hrV (by rw [HVS.out]; exact HF.out) HVC.out).mono ?_
          rintro e w3 ⟨Gf, nf, cf, vsf, rfl, hGf, hb3⟩
          have hB3 := hBw.trans (hb3.mono hBw.size)
          have hN3 := hN2.below hb3
          have hrF := hGf.rd
          rw [HON.out] at hrF
          clear hc0 hc1 hc2 hGf hb3 hrV hBw hN2 hnn
          obtain ⟨hc0, hc1, hc2⟩ := HCELLS.out _ hB3
          obtain rfl : nW = nf := by have h8 := hrF.len; rw [flatR_length] at h8; have h9 := HFF.out.1.len; have := HLENW.out; omega
          have hq : ((nW : Int) != (nW : Int)) = false := by simp
          go_wp2_with fail
          refine (rforward_lst _ AW nW cW Ws AE nE cE ee (h1.below hB3) (h2.below hB3) _ _ _ B hN3 HBR.out (by rw [HBL.out]; exact HF.out)).mono ?_
          rintro e w4 ⟨Gw, nw, cw, vsw, rfl, hGw, hb4⟩
          have hB4 := hB3.trans (hb4.mono hB3.size)
          have hrF4 := hrF.below hb4
          have hrW := hGw.rd
          rw [HFIN.out] at hrW
          clear hc0 hc1 hc2 hGw hb4 hrF hN3 hB3 hq
          obtain rfl : nW = nw := by have h8 := hrW.len; rw [flatR_length] at h8; have h9 := HFF.out.1.len; have := HLENW.out; omega
          have hnW65 : nW ≤ 65 := by have := HSZ.out; omega
          go_wp2_with fail
          go_loopw [10, 11] (fun iv _ wr => ∃ i : Nat, i ≤ nW ∧ iv = .int .i64 (i : Int) ∧ Below w4.heap.size w4 wr) (fun iv _ _ => nW - (intOf iv).toNat)
          case atStart => exact ⟨0, Nat.zero_le _, rfl, Below.refl _ _⟩
          case round =>
            obtain ⟨i, hi, rfl, hS9⟩ := hrel
            by_cases hlt : i < nW
            · obtain ⟨bF, oF, A0, m0, e0, rfl, hbF, hcF, hvF⟩ := hrF4.at hlt
              obtain ⟨bK, oK, A1, m1, e1, rfl, hbK, hcK, hvK⟩ := hrW.at hlt
              rw [flatR_row] at hvF hvK
              have hlF := hvF.len
              have hlK := hvK.len
              obtain rfl : m0 = m1 := by omega
              have hm63 := hvF.le63
              have HCF := hide hcF
              have HCK := hide hcK
              have HFC := hide (fun k => HFF.out.2 i k)
              have HFC2 : Hid (∀ k, CanW ((FIN.getD i []).getD k ((infW, 0) : LW))) := HFC.out
              clear hlF hlK HFC
              generalize FIN.getD i [] = fs at *
              obtain ⟨W, hWd⟩ : ∃ W : World, W = wr := ⟨_, rfl⟩
              subst hWd
              have K0 := hide (stays ((hS9.cell (p := ⟨bF, oF + i, none⟩) hbF).trans hcF))
              have K1 := hide (stays ((hS9.cell (p := ⟨bK, oK + i, none⟩) hbK).trans hcK))
              have q3 : (i : Int) < (nW : Int) := by omega
              clear hcF hcK
              go_wp2_with fail
              refine wp_region_tab 11 134 [IsV (.slice (some ⟨bF, oF, none⟩) nW cf), IsV (.int .i64 (i : Int)), IsV (.pointer (some ⟨bF, oF + i, none⟩)), IsV (.slice A0 m0 e0), IsV (.int .i64 (m0 : Int)), IsV (.slice (some ⟨bK, oK, none⟩) nW cw), IsV (.int .i64 (i : Int)), IsV (.pointer (some ⟨bK, oK + i, none⟩)), IsV (.slice A1 m0 e1), IsV (.int .i64 (m0 : Int)), IsV (.bool false)] (From W) (by kernel_rfl) (by kernel_rfl) (by kernel_rfl) rfl From.lasts (From.drew (From.refl W)) ?_
              simp only [List.take_succ_cons, List.drop_succ_cons, List.take_nil, List.drop_nil]
              refine Tab.cons IsV.lasting (fun wx hx hd => ?_) (fun v98 => ?_)
              · skip
                clear hd
                intro KK hK
                go_simp
                exact hK.out _ _ rfl (Below.refl _ _)
              simp only [Act.put, List.setIfInBounds_toArray, List.set_cons_zero, List.set_cons_succ]
              refine Tab.cons IsV.lasting (fun wx hx hd => ?_) (fun v99 => ?_)
              · skip
                clear hd
                intro KK hK
                go_simp
                exact hK.out _ _ rfl (Below.refl _ _)
              simp only [Act.put, List.setIfInBounds_toArray, List.set_cons_zero, List.set_cons_succ]
              refine Tab.cons IsV.lasting (fun wx hx hd => ?_) (fun v100 => ?_)
              · skip
                have e98 : v98 = _ := (hd _ (.tail _ (.head _)) (by kernel_rfl) : (IsV (.slice (some ⟨bF, oF, none⟩) nW cf)) v98 wx)
                subst e98
                have e99 : v99 = _ := (hd _ (.head _) (by kernel_rfl) : (IsV (.int .i64 (i : Int))) v99 wx)
                subst e99
                clear hd
                intro KK hK
                go_simp
                exact hK.out _ _ rfl (Below.refl _ _)
              simp only [Act.put, List.setIfInBounds_toArray, List.set_cons_zero, List.set_cons_succ]
              refine Tab.cons IsV.lasting (fun wx hx hd => ?_) (fun v101 => ?_)
              · skip
                have e100 : v100 = _ := (hd _ (.head _) (by kernel_rfl) : (IsV (.pointer (some ⟨bF, oF + i, none⟩))) v100 wx)
                subst e100
                clear hd
                intro KK hK
                have hcell0 := K0.out _ hx
                go_simp
                exact hK.out _ _ rfl (Below.refl _ _)
              simp only [Act.put, List.setIfInBounds_toArray, List.set_cons_zero, List.set_cons_succ]
              refine Tab.cons IsV.lasting (fun wx hx hd => ?_) (fun v102 => ?_)
              · skip
                have e101 : v101 = _ := (hd _ (.head _) (by kernel_rfl) : (IsV (.slice A0 m0 e0)) v101 wx)
                subst e101
                clear hd
                intro KK hK
                go_simp
                exact hK.out _ _ rfl (Below.refl _ _)
              simp only [Act.put, List.setIfInBounds_toArray, List.set_cons_zero, List.set_cons_succ]
              refine Tab.cons IsV.lasting (fun wx hx hd => ?_) (fun v103 => ?_)
              · skip
                clear hd
                intro KK hK
                go_simp
                exact hK.out _ _ rfl (Below.refl _ _)
              simp only [Act.put, List.setIfInBounds_toArray, List.set_cons_zero, List.set_cons_succ]
              refine Tab.cons IsV.lasting (fun wx hx hd => ?_) (fun v104 => ?_)
              · skip
                clear hd
                intro KK hK
                go_simp
                exact hK.out _ _ rfl (Below.refl _ _)
              simp only [Act.put, List.setIfInBounds_toArray, List.set_cons_zero, List.set_cons_succ]
              refine Tab.cons IsV.lasting (fun wx hx hd => ?_) (fun v105 => ?_)
              · skip
                have e103 : v103 = _ := (hd _ (.tail _ (.head _)) (by kernel_rfl) : (IsV (.slice (some ⟨bK, oK, none⟩) nW cw)) v103 wx)
                subst e103
                have e104 : v104 = _ := (hd _ (.head _) (by kernel_rfl) : (IsV (.int .i64 (i : Int))) v104 wx)
                subst e104
                clear hd
                intro KK hK
                go_simp
                exact hK.out _ _ rfl (Below.refl _ _)
              simp only [Act.put, List.setIfInBounds_toArray, List.set_cons_zero, List.set_cons_succ]
              refine Tab.cons IsV.lasting (fun wx hx hd => ?_) (fun v106 => ?_)
              · skip
                have e105 : v105 = _ := (hd _ (.head _) (by kernel_rfl) : (IsV (.pointer (some ⟨bK, oK + i, none⟩))) v105 wx)
                subst e105
                clear hd
                intro KK hK
                have hcell0 := K1.out _ hx
                go_simp
                exact hK.out _ _ rfl (Below.refl _ _)
              simp only [Act.put, List.setIfInBounds_toArray, List.set_cons_zero, List.set_cons_succ]
              refine Tab.cons IsV.lasting (fun wx hx hd => ?_) (fun v107 => ?_)
              · skip
                have e106 : v106 = _ := (hd _ (.head _) (by kernel_rfl) : (IsV (.slice A1 m0 e1)) v106 wx)
                subst e106
                clear hd
                intro KK hK
                go_simp
                exact hK.out _ _ rfl (Below.refl _ _)
              simp only [Act.put, List.setIfInBounds_toArray, List.set_cons_zero, List.set_cons_succ]
              refine Tab.cons IsV.lasting (fun wx hx hd => ?_) (fun v108 => ?_)
              · skip
                have e102 : v102 = _ := (hd _ (.tail _ (.tail _ (.tail _ (.tail _ (.tail _ (.head _)))))) (by kernel_rfl) : (IsV (.int .i64 (m0 : Int))) v102 wx)
                subst e102
                have e107 : v107 = _ := (hd _ (.head _) (by kernel_rfl) : (IsV (.int .i64 (m0 : Int))) v107 wx)
                subst e107
                clear hd
                intro KK hK
                go_simp
                exact hK.out _ _ rfl (Below.refl _ _)
              simp only [Act.put, List.setIfInBounds_toArray, List.set_cons_zero, List.set_cons_succ]
              refine Tab.nil fun wx hx hd => ?_
              have e108 : v108 = _ := (hd _ (.head _) : (IsV (.bool false)) v108 wx)
              subst e108
              clear hd
              clear q3
              have hB24 := hS9.trans (hx.out.mono hS9.size)
              have hcK4 := K1.out _ hx
              clear hx
              go_wp2_with fail
              go_loopw [11] (fun kv wr => ∃ k : Nat, k ≤ m0 ∧ kv = .int .i64 (k : Int) ∧ Below w4.heap.size w4 wr) (fun kv _ => m0 - (intOf kv).toNat)
              case atStart => exact ⟨0, Nat.zero_le _, rfl, hB24⟩
              case round =>
                clear hB24 hS9 K0 K1 hcK4
                obtain ⟨k, hk, rfl, hS8⟩ := hrel
                have hcK5 := (hS8.cell (p := ⟨bK, oK + i, none⟩) hbK).trans HCK.out
                by_cases hltk : k < m0
                · obtain ⟨b2, o2, AF, nF, cF, rfl, hb2, hcx, hcx2, _, hRF, hKF⟩ := hvF.atW hltk
                  obtain ⟨b3, o3, AK, nK, cK, rfl, hb3, hcy, hcy2, _, hRK, hKK⟩ := hvK.atW hltk
                  have hcan := HFC2.out k
                  obtain ⟨W, hWd⟩ : ∃ W : World, W = wr := ⟨_, rfl⟩
                  subst hWd
                  have RF := hide (CanLW.mk (hRF.below hS8) hKF hcan)
                  have RK := hide (CanLW.mk (hRK.below hS8) hKK hcan)
                  have K0 := hide (stays ((hS8.cell (p := ⟨bF, oF + i, none⟩) hbF).trans HCF.out))
                  have K1 := hide (stays hcK5)
                  have KF := hide (stays ((hS8.cell (p := ⟨b2, o2 + k * 2, none⟩) hb2).trans hcx))
                  have KF2 := hide (stays ((hS8.cell (p := ⟨b2, o2 + k * 2 + 1, none⟩) hb2).trans hcx2))
                  have KQ := hide (stays ((hS8.cell (p := ⟨b3, o3 + k * 2, none⟩) hb3).trans hcy))
                  have KQ2 := hide (stays ((hS8.cell (p := ⟨b3, o3 + k * 2 + 1, none⟩) hb3).trans hcy2))
                  have q3 : (i : Int) < (nW : Int) := by omega
                  have q4 : (k : Int) < (m0 : Int) := by omega
                  clear hcan hRF hRK hcx hcx2 hcy hcy2
                  generalize fs.getD k ((infW, 0) : LW) = x at *
                  go_wp2_with fail
                  refine wp_region_tab 16 134 [IsV (.slice (some ⟨bF, oF, none⟩) nW cf), IsV (.int .i64 (i : Int)), IsV (.pointer (some ⟨bF, oF + i, none⟩)), IsV (.slice (some ⟨b2, o2, none⟩) m0 e0), IsV (.int .i64 (k : Int)), IsV (.pointer (some ⟨b2, o2 + k * 2, none⟩)), IsV (.agg #[.int .i64 x.1, .slice AF nF cF]), IsV (.slice (some ⟨bK, oK, none⟩) nW cw), IsV (.int .i64 (i : Int)), IsV (.pointer (some ⟨bK, oK + i, none⟩)), IsV (.slice (some ⟨b3, o3, none⟩) m0 e1), IsV (.int .i64 (k : Int)), IsV (.pointer (some ⟨b3, o3 + k * 2, none⟩)), IsV (.agg #[.int .i64 x.1, .slice AK nK cK]), IsV (.bool true), IsV (.bool false)] (From W) (by kernel_rfl) (by kernel_rfl) (by kernel_rfl) rfl From.lasts (From.drew (From.refl W)) ?_
                  simp only [List.take_succ_cons, List.drop_succ_cons, List.take_nil, List.drop_nil]
                  refine Tab.cons IsV.lasting (fun wx hx hd => ?_) (fun v118 => ?_)
                  · skip
                    clear hd
                    intro KK hK
                    go_simp
                    exact hK.out _ _ rfl (Below.refl _ _)
                  simp only [Act.put, List.setIfInBounds_toArray, List.set_cons_zero, List.set_cons_succ]
                  refine Tab.cons IsV.lasting (fun wx hx hd => ?_) (fun v119 => ?_)
                  · skip
                    clear hd
                    intro KK hK
                    go_simp
                    exact hK.out _ _ rfl (Below.refl _ _)
                  simp only [Act.put, List.setIfInBounds_toArray, List.set_cons_zero, List.set_cons_succ]
                  refine Tab.cons IsV.lasting (fun wx hx hd => ?_) (fun v120 => ?_)
                  · skip
                    have e118 : v118 = _ := (hd _ (.tail _ (.head _)) (by kernel_rfl) : (IsV (.slice (some ⟨bF, oF, none⟩) nW cf)) v118 wx)
                    subst e118
                    have e119 : v119 = _ := (hd _ (.head _) (by kernel_rfl) : (IsV (.int .i64 (i : Int))) v119 wx)
                    subst e119
                    clear hd
                    intro KK hK
                    go_simp
                    exact hK.out _ _ rfl (Below.refl _ _)
                  simp only [Act.put, List.setIfInBounds_toArray, List.set_cons_zero, List.set_cons_succ]
                  refine Tab.cons IsV.lasting (fun wx hx hd => ?_) (fun v121 => ?_)
                  · skip
                    have e120 : v120 = _ := (hd _ (.head _) (by kernel_rfl) : (IsV (.pointer (some ⟨bF, oF + i, none⟩))) v120 wx)
                    subst e120
                    clear hd
                    intro KK hK
                    have hcell0 := K0.out _ hx
                    go_simp
                    exact hK.out _ _ rfl (Below.refl _ _)
                  simp only [Act.put, List.setIfInBounds_toArray, List.set_cons_zero, List.set_cons_succ]
                  refine Tab.cons IsV.lasting (fun wx hx hd => ?_) (fun v122 => ?_)
                  · skip
                    clear hd
                    intro KK hK
                    go_simp
                    exact hK.out _ _ rfl (Below.refl _ _)
                  simp only [Act.put, List.setIfInBounds_toArray, List.set_cons_zero, List.set_cons_succ]
                  refine Tab.cons IsV.lasting (fun wx hx hd => ?_) (fun v123 => ?_)
                  · skip
                    have e121 : v121 = _ := (hd _ (.tail _ (.head _)) (by kernel_rfl) : (IsV (.slice (some ⟨b2, o2, none⟩) m0 e0)) v121 wx)
                    subst e121
                    have e122 : v122 = _ := (hd _ (.head _) (by kernel_rfl) : (IsV (.int .i64 (k : Int))) v122 wx)
                    subst e122
                    clear hd
                    intro KK hK
                    go_simp
                    exact hK.out _ _ rfl (Below.refl _ _)
                  simp only [Act.put, List.setIfInBounds_toArray, List.set_cons_zero, List.set_cons_succ]
                  refine Tab.cons IsV.lasting (fun wx hx hd => ?_) (fun v124 => ?_)
                  · skip
                    have e123 : v123 = _ := (hd _ (.head _) (by kernel_rfl) : (IsV (.pointer (some ⟨b2, o2 + k * 2, none⟩))) v123 wx)
                    subst e123
                    clear hd
                    intro KK hK
                    have hcell0 := KF.out _ hx
                    have hcell1 := KF2.out _ hx
                    go_simp
                    exact hK.out _ _ rfl (Below.refl _ _)
                  simp only [Act.put, List.setIfInBounds_toArray, List.set_cons_zero, List.set_cons_succ]
                  refine Tab.cons IsV.lasting (fun wx hx hd => ?_) (fun v125 => ?_)
                  · skip
                    clear hd
                    intro KK hK
                    go_simp
                    exact hK.out _ _ rfl (Below.refl _ _)
                  simp only [Act.put, List.setIfInBounds_toArray, List.set_cons_zero, List.set_cons_succ]
                  refine Tab.cons IsV.lasting (fun wx hx hd => ?_) (fun v126 => ?_)
                  · skip
                    clear hd
                    intro KK hK
                    go_simp
                    exact hK.out _ _ rfl (Below.refl _ _)
                  simp only [Act.put, List.setIfInBounds_toArray, List.set_cons_zero, List.set_cons_succ]
                  refine Tab.cons IsV.lasting (fun wx hx hd => ?_) (fun v127 => ?_)
                  · skip
                    have e125 : v125 = _ := (hd _ (.tail _ (.head _)) (by kernel_rfl) : (IsV (.slice (some ⟨bK, oK, none⟩) nW cw)) v125 wx)
                    subst e125
                    have e126 : v126 = _ := (hd _ (.head _) (by kernel_rfl) : (IsV (.int .i64 (i : Int))) v126 wx)
                    subst e126
                    clear hd
                    intro KK hK
                    go_simp
                    exact hK.out _ _ rfl (Below.refl _ _)
                  simp only [Act.put, List.setIfInBounds_toArray, List.set_cons_zero, List.set_cons_succ]
                  refine Tab.cons IsV.lasting (fun wx hx hd => ?_) (fun v128 => ?_)
                  · skip
                    have e127 : v127 = _ := (hd _ (.head _) (by kernel_rfl) : (IsV (.pointer (some ⟨bK, oK + i, none⟩))) v127 wx)
                    subst e127
                    clear hd
                    intro KK hK
                    have hcell0 := K1.out _ hx
                    go_simp
                    exact hK.out _ _ rfl (Below.refl _ _)
                  simp only [Act.put, List.setIfInBounds_toArray, List.set_cons_zero, List.set_cons_succ]
                  refine Tab.cons IsV.lasting (fun wx hx hd => ?_) (fun v129 => ?_)
                  · skip
                    clear hd
                    intro KK hK
                    go_simp
                    exact hK.out _ _ rfl (Below.refl _ _)
                  simp only [Act.put, List.setIfInBounds_toArray, List.set_cons_zero, List.set_cons_succ]
                  refine Tab.cons IsV.lasting (fun wx hx hd => ?_) (fun v130 => ?_)
                  · skip
                    have e128 : v128 = _ := (hd _ (.tail _ (.head _)) (by kernel_rfl) : (IsV (.slice (some ⟨b3, o3, none⟩) m0 e1)) v128 wx)
                    subst e128
                    have e129 : v129 = _ := (hd _ (.head _) (by kernel_rfl) : (IsV (.int .i64 (k : Int))) v129 wx)
                    subst e129
                    clear hd
                    intro KK hK
                    go_simp
                    exact hK.out _ _ rfl (Below.refl _ _)
                  simp only [Act.put, List.setIfInBounds_toArray, List.set_cons_zero, List.set_cons_succ]
                  refine Tab.cons IsV.lasting (fun wx hx hd => ?_) (fun v131 => ?_)
                  · skip
                    have e130 : v130 = _ := (hd _ (.head _) (by kernel_rfl) : (IsV (.pointer (some ⟨b3, o3 + k * 2, none⟩))) v130 wx)
                    subst e130
                    clear hd
                    intro KK hK
                    have hcell0 := KQ.out _ hx
                    have hcell1 := KQ2.out _ hx
                    go_simp
                    exact hK.out _ _ rfl (Below.refl _ _)
                  simp only [Act.put, List.setIfInBounds_toArray, List.set_cons_zero, List.set_cons_succ]
                  refine Tab.cons IsV.lasting (fun wx hx hd => ?_) (fun v132 => ?_)
                  · skip
                    have e124 : v124 = _ := (hd _ (.tail _ (.tail _ (.tail _ (.tail _ (.tail _ (.tail _ (.tail _ (.head _)))))))) (by kernel_rfl) : (IsV (.agg #[.int .i64 x.1, .slice AF nF cF])) v124 wx)
                    subst e124
                    have e131 : v131 = _ := (hd _ (.head _) (by kernel_rfl) : (IsV (.agg #[.int .i64 x.1, .slice AK nK cK])) v131 wx)
                    subst e131
                    clear hd
                    intro KK hK
                    go_simp
                    have hct := rsameLeast _ _ _ x 200 _ _ _ x 200 _ (RF.out.below hx.out) (RK.out.below hx.out)
                    rw [decide_eq_true (rfl : x = x)] at hct
                    refine hct.mono ?_
                    rintro e w' ⟨rfl, hb'⟩
                    exact hK.out _ _ rfl hb'
                  simp only [Act.put, List.setIfInBounds_toArray, List.set_cons_zero, List.set_cons_succ]
                  refine Tab.cons IsV.lasting (fun wx hx hd => ?_) (fun v133 => ?_)
                  · skip
                    have e132 : v132 = _ := (hd _ (.head _) (by kernel_rfl) : (IsV (.bool true)) v132 wx)
                    subst e132
                    clear hd
                    intro KK hK
                    go_simp
                    exact hK.out _ _ rfl (Below.refl _ _)
                  simp only [Act.put, List.setIfInBounds_toArray, List.set_cons_zero, List.set_cons_succ]
                  refine Tab.nil fun wx hx hd => ?_
                  have e133 : v133 = _ := (hd _ (.head _) : (IsV (.bool false)) v133 wx)
                  subst e133
                  clear hd
                  clear q3 q4
                  have hB29 := hS8.trans (hx.out.mono hS8.size)
                  clear hx
                  go_wp2
                  go_roundw
                  case rel => exact ⟨k + 1, by omega, by go_num, hB29⟩
                  case measure => simp [intOf]; omega
                · obtain rfl : k = m0 := by omega
                  go_wp2
                  go_roundw
                  case rel => exact ⟨i + 1, by omega, by go_num, hS8⟩
                  case measure => simp [intOf]; omega
            · go_wp2
              go_ret
              exact ⟨rfl, below_step (hB4.trans (hS9.mono hB4.size)) hS⟩
    · obtain ⟨z, hz⟩ : ∃ z, fitsV Ws ee (V.map List.length) = z := ⟨_, rfl⟩
      rw [hz] at hf
      have HF := hide hz
      have hz0 : (z != 0) = true := by simpa using hf
      clear hz hf
      go_wp2_with fail
      refine wp_region_tab 7 134 [IsV (.pointer (some ⟨w.heap.size, 0, none⟩)), IsV (.agg #[.slice AW nW cW, .slice AE nE cE]), IsV (.pointer (some ⟨w.heap.size, 2, none⟩)), IsV (.slice A n c), IsI (natI (V.map List.length)), IsV (.int .i64 z), IsV (.bool true)] (From W) (by kernel_rfl) (by kernel_rfl) (by kernel_rfl) rfl From.lasts (From.drew (From.refl W)) ?_
      simp only [List.take_succ_cons, List.drop_succ_cons, List.take_nil, List.drop_nil]
      refine Tab.cons IsV.lasting (fun wx hx hd => ?_) (fun v17 => ?_)
      · skip
        clear hd
        intro KK hK
        go_simp
        exact hK.out _ _ rfl (Below.refl _ _)
      simp only [Act.put, List.setIfInBounds_toArray, List.set_cons_zero, List.set_cons_succ]
      refine Tab.cons IsV.lasting (fun wx hx hd => ?_) (fun v18 => ?_)
      · skip
        have e17 : v17 = _ := (hd _ (.head _) (by kernel_rfl) : (IsV (.pointer (some ⟨w.heap.size, 0, none⟩))) v17 wx)
        subst e17
        clear hd
        intro KK hK
        have hcell0 := C0.out _ hx
        have hcell1 := C1.out _ hx
        go_simp
        exact hK.out _ _ rfl (Below.refl _ _)
      simp only [Act.put, List.setIfInBounds_toArray, List.set_cons_zero, List.set_cons_succ]
      refine Tab.cons IsV.lasting (fun wx hx hd => ?_) (fun v19 => ?_)
      · skip
        clear hd
        intro KK hK
        go_simp
        exact hK.out _ _ rfl (Below.refl _ _)
      simp only [Act.put, List.setIfInBounds_toArray, List.set_cons_zero, List.set_cons_succ]
      refine Tab.cons IsV.lasting (fun wx hx hd => ?_) (fun v20 => ?_)
      · skip
        have e19 : v19 = _ := (hd _ (.head _) (by kernel_rfl) : (IsV (.pointer (some ⟨w.heap.size, 2, none⟩))) v19 wx)
        subst e19
        clear hd
        intro KK hK
        have hcell0 := C2.out _ hx
        go_simp
        exact hK.out _ _ rfl (Below.refl _ _)
      simp only [Act.put, List.setIfInBounds_toArray, List.set_cons_zero, List.set_cons_succ]
      refine Tab.cons IsI.lasting (fun wx hx hd => ?_) (fun v21 => ?_)
      · skip
        have e20 : v20 = _ := (hd _ (.head _) (by kernel_rfl) : (IsV (.slice A n c)) v20 wx)
        subst e20
        clear hd
        intro KK hK
        go_simp
        refine (counts_any _ A n c _ (h3.below (hB.trans (hx.out.mono hB.size))).lens hn).mono ?_
        rintro e w' ⟨A', n', c', rfl, h', hb'⟩
        exact hK.out _ _ ⟨A', n', c', rfl, h'⟩ hb'
      simp only [Act.put, List.setIfInBounds_toArray, List.set_cons_zero, List.set_cons_succ]
      refine Tab.cons IsV.lasting (fun wx hx hd => ?_) (fun v22 => ?_)
      · skip
        have e18 : v18 = _ := (hd _ (.tail _ (.tail _ (.tail _ (.head _)))) (by kernel_rfl) : (IsV (.agg #[.slice AW nW cW, .slice AE nE cE])) v18 wx)
        subst e18
        obtain ⟨A21, n21, c21, rfl, h21⟩ := (hd _ (.head _) (by kernel_rfl) : (IsI (natI (V.map List.length))) v21 wx)
        clear hd
        intro KK hK
        go_simp
        have hct := fits_any _ AW nW cW Ws AE nE cE ee (h1.below (hB.trans (hx.out.mono hB.size))) (h2.below (hB.trans (hx.out.mono hB.size))) _ _ _ _ h21
        rw [HF.out] at hct
        refine hct.mono ?_
        rintro e w' ⟨rfl, hb'⟩
        exact hK.out _ _ rfl hb'
      simp only [Act.put, List.setIfInBounds_toArray, List.set_cons_zero, List.set_cons_succ]
      refine Tab.cons IsV.lasting (fun wx hx hd => ?_) (fun v23 => ?_)
      · skip
        have e22 : v22 = _ := (hd _ (.head _) (by kernel_rfl) : (IsV (.int .i64 z)) v22 wx)
        subst e22
        clear hd
        intro KK hK
        go_simp
        exact hK.out _ _ rfl (Below.refl _ _)
      simp only [Act.put, List.setIfInBounds_toArray, List.set_cons_zero, List.set_cons_succ]
      refine Tab.nil fun wx hx hd => ?_
      have e23 : v23 = _ := (hd _ (.head _) : (IsV (.bool true)) v23 wx)
      subst e23
      clear hd
      replace hx := hx.out
      have hB9 := hB.trans (hx.mono hB.size)
      clear hB
      obtain ⟨hc0, hc1, hc2⟩ := HCELLS.out _ hB9
      skip
      go_wp2
      go_ret
      exact ⟨rfl, below_step hB9 hS⟩
end Go.Proofs.Ytjadgomakoaibaa
