/- The walk of the reference's ForwardMin. -/
import Derived.Test.YtjadgomakoaibaaLeastM
import Derived.Test.YtjadgomakoaibaaFwdLst
import Derived.Test.YtjadgomakoaibaaLst5
import Derived.Test.YtjadgomakoaibaaNats
namespace Go.Proofs.Ytjadgomakoaibaa
open Go.RowKit
theorem leastC_set {K : Nat} {x : Int ⊕ Nat} {v : Value} {w : World} {p : Addr} {u : Value} {A : Option Addr} {n c : Nat} (h : (leastC K).rel x v w) (hp : w.cell? p = some (.slice A n c)) : (leastC K).rel x v (w.setCell p u) := by
  cases x with
  | inl z => exact h
  | inr N => exact natC_set h hp
set_option maxHeartbeats 4000000 in
set_option maxRecDepth 10000 in
theorem rforward_lst (w : World) (AW : Option Addr) (nW cW : Nat) (Ws : List Int) (AE : Option Addr) (nE cE : Nat) (ee : List (List EdgeT)) (hW : RdI w AW nW cW Ws) (hE : RdEE w AE nE cE ee)
    (A : Option Addr) (n c : Nat) (V : List (List Int)) (hV : RdR intC 0 w 1 A n c V)
    (hxb : ∀ i j, 0 ≤ at2 0 V i j ∧ at2 0 V i j ≤ 8) (hfit : fitsV Ws ee (V.map List.length) = 0) :
    Calls Try.prog 17 #[.agg #[.slice AW nW cW, .slice AE nE cE], .slice A n c] w (RetGrid (leastC 200) (.inl 0) 48 51 2 (flatR (fwdAll ((infW, 0) : LW) upLI (set2 (initR Ws ((infW, 0) : LW)) 0 0 ((0, 1) : LW)) 0 ee V)) w) := by
  obtain ⟨FIN, hFIN⟩ : ∃ F, fwdAll ((infW, 0) : LW) upLI (set2 (initR Ws ((infW, 0) : LW)) 0 0 ((0, 1) : LW)) 0 ee V = F := ⟨_, rfl⟩
  rw [hFIN]
  obtain ⟨W0, hW0, hS, hz, hc0, hc1⟩ := boxT w AW nW cW AE nE cE
  obtain ⟨hshape, hlens⟩ := fits_zero hfit
  have hLay := layered_of_shape hshape
  have hnW : Ws.length = nW := hW.len
  have hnE : ee.length = nE := hE.len
  have hnV : V.length = n := hV.len
  have hlenV : V.length = ee.length := by have := congrArg List.length hlens; simpa using this
  have HFIN := hide hFIN
  clear hFIN
  have h1 := hW.below hS
  have h2 := hE.below hS
  have h3 := hV.below hS
  have hl1 := hLay.len
  have hl2 := hLay.few
  have HW := hide hW0
  have HC0 := hide hc0
  have HC1 := hide hc1
  have HZ := hide hz
  have HLay := hide hLay
  have HN := hide (And.intro hnW (And.intro hnE (And.intro hnV hlenV)))
  have hsz : nW = nE + 1 ∧ n = nE ∧ nE ≤ 64 := by omega
  have hLENS0 : ∀ i, i < nE → (V.getD i []).length = (ee.getD i []).length := fun i hi => by
    have h8 := congrArg (fun l : List Nat => l.getD i 0) hlens
    simpa [List.getD_eq_getElem?_getD, show i < V.length by omega, show i < ee.length by omega] using h8
  have HLENS := hide hLENS0
  obtain ⟨i1, hi1, hz1, hz2, hz3⟩ := info_parts Try.infoRowlst
  obtain ⟨i0, hy0, hy1, hy2, hy3⟩ := info_parts Try.infoLst
  clear hLENS0
  clear hW0 hc0 hc1 hz hLay hshape hlens hnW hnE hnV hlenV hl1 hl2 hW hE hV
  obtain ⟨hn1, hn2, hn3⟩ := hsz
  have HSZ := hide (And.intro hn1 (And.intro hn2 hn3))
  have hnW0 : 0 < nW := by omega
  have hr0W := hnW0
  have hr0i : ((0 : Nat) : Int) < (nW : Int) := by omega
  have hnW1 : nW ≤ 65 := by omega
  have hnE1 : nE ≤ 64 := hn3
  clear hn1 hn2 hn3
  go_enter Try.func17, Try.ntmps17
  go_upto_region 1 with (fail)
  rw [← HW.out]
  have hcb0 := HC0.out
  go_wp2_with (at_make; refine wpList_make_row _ rfl _ _ _ 48 rfl i1 _ 1 24 Try.underlying47 hi1 hz1 hz2 hz3 _ _ _ _ nW rfl rfl rfl rfl (by omega) (by unfold maxLen; omega) ?_; intro w1 hown1 hb1)
  clear hcb0
  rw [madeCells_one (show (Value.slice none 0 0).cells = #[Value.slice none 0 0] from rfl)] at hown1
  have hgr := GridR.made (leastC 200) (.inl 0) W0 W0.heap.size 48 51 2 nW hown1
  clear hown1
  go_loopw [6, 7] (fun iv _ wr => ∃ (i : Nat) (vs : List Value), i ≤ nW ∧ iv = .int .i64 (i : Int) ∧ GridR (leastC 200) (.inl 0) wr W0.heap.size 48 51 2 (some ⟨W0.heap.size, 0, none⟩) nW nW vs (flatR (rowsAt Ws ((infW, 0) : LW) i 0)) ∧ Below W0.heap.size W0 wr) (fun iv _ _ => nW - (intOf iv).toNat)
  case atStart => exact ⟨0, _, Nat.zero_le _, rfl, by rw [rowsAt_zero, HN.out.1, flatR_empty]; exact hgr, hb1⟩
  case round =>
    clear hgr hb1
    obtain ⟨i, vs, hi, rfl, hG, hS1⟩ := hrel
    have hcb0 := (hS1.cell (p := ⟨w.heap.size, 0, none⟩) HZ.out).trans HC0.out
    by_cases hlt : i < nW
    · obtain ⟨b, off, rfl, hb, hcell0⟩ := h1.at hlt
      have hcell := (hS1.cell (p := ⟨b, off + i, none⟩) hb).trans hcell0
      have hil : i < Ws.length := by rw [HN.out.1]; exact hlt
      obtain ⟨hp1, hp2⟩ := HLay.out.wide i hil
      obtain ⟨q, hq⟩ : ∃ q : Nat, Ws.getD i 0 = (q : Int) := ⟨(Ws.getD i 0).toNat, by omega⟩
      have HQ := hide hq
      have hqm : q ≤ 65536 := by omega
      rw [hq] at hcell hcell0
      have HCW := hide hcell0
      clear hq hp1 hp2 hcell0
      obtain ⟨rows, g1, g2, g3, g4⟩ := hG.ex
      have hslot := g1.slot hlt
      have hfree := g1.slotFree i
      obtain ⟨A9, n9, c9, hsl9⟩ : ∃ A9 n9 c9, vs.getD i undef = .slice A9 n9 c9 := by
        rcases g1.form hlt with ⟨h9, _⟩ | ⟨_, _, _, h9, _⟩
        · exact ⟨_, _, _, h9⟩
        · exact ⟨_, _, _, h9⟩
      rw [hsl9] at hslot
      have HSL := hide (And.intro hslot hfree)
      have HLT := hide (World.block_lt_of_cell? wr _ hslot)
      clear g1 g2 g3 g4 hslot hfree hsl9
      obtain ⟨wo, rfl⟩ : ∃ wo : World, wo = wr := ⟨_, rfl⟩
      go_wp2_with (at_make; refine wpList_make_row _ rfl _ _ _ 51 rfl i0 _ 2 32 Try.underlying48 hy0 hy1 hy2 hy3 _ _ _ _ q rfl rfl rfl rfl (by omega) (by unfold maxLen; omega) ?_; intro w1 hown1 hb1; have hcs := (hb1.cell (p := ⟨W0.heap.size, i, none⟩) HLT.out).trans HSL.out.1; have hcf := (hb1.frozen (p := ⟨W0.heap.size, i, none⟩) HLT.out).trans HSL.out.2)
      have hGp := hG.putNew hlt hS1.size (l := flatL (List.replicate q ((0, 0) : LW))) (madeW_len q) hown1 hb1 (fun x v h9 => leastC_set ((leastC 200).last _ _ _ _ hb1 h9) hcs) (fun k hk => madeW_rel _ hk)
      rw [flatR_set] at hGp
      have hBp := (hS1.trans (hb1.mono hS1.size)).setCell (p := ⟨W0.heap.size, i, none⟩) (Nat.le_refl _) (.slice (some ⟨wo.heap.size, 0, none⟩) q q)
      obtain ⟨vs', hvs'⟩ : ∃ v9, v9 = vs.set i (.slice (some ⟨wo.heap.size, 0, none⟩) q q) := ⟨_, rfl⟩
      rw [← hvs'] at hGp
      clear hvs' hown1 hb1 hG hcell hcb0 hcs hcf
      go_loopw [7] (fun kv wr => ∃ k : Nat, k ≤ q ∧ kv = .int .i64 (k : Int) ∧ GridR (leastC 200) (.inl 0) wr W0.heap.size 48 51 2 (some ⟨W0.heap.size, 0, none⟩) nW nW vs' (flatR ((rowsAt Ws ((infW, 0) : LW) i 0).set i (List.replicate k ((infW, 0) : LW) ++ List.replicate (q - k) ((0, 0) : LW)))) ∧ Below W0.heap.size W0 wr) (fun kv _ => q - (intOf kv).toNat)
      case atStart => exact ⟨0, Nat.zero_le _, rfl, by simpa using hGp, hBp⟩
      case round =>
        clear hGp hBp
        obtain ⟨k, hk, rfl, hG, hS2⟩ := hrel
        have hcb2 := (hS2.cell (p := ⟨w.heap.size, 0, none⟩) HZ.out).trans HC0.out
        have hcw2 := (hS2.cell (p := ⟨b, off + i, none⟩) hb).trans HCW.out
        by_cases hltk : k < q
        · have hrw : ((rowsAt Ws ((infW, 0) : LW) i 0).set i (List.replicate k ((infW, 0) : LW) ++ List.replicate (q - k) ((0, 0) : LW))).getD i [] = List.replicate k ((infW, 0) : LW) ++ List.replicate (q - k) ((0, 0) : LW) := gset_self _ _ _ (by rw [rowsAt_len]; exact hil)
          have hlr : (((rowsAt Ws ((infW, 0) : LW) i 0).set i (List.replicate k ((infW, 0) : LW) ++ List.replicate (q - k) ((0, 0) : LW))).getD i []).length = q := by rw [hrw]; simp; omega
          obtain ⟨b9, m9, e9, hv9, hsl9, hba9, hbb9, _, _, hlm9⟩ := hG.row hlt (by rw [flatR_row, flatL_length]; omega)
          rw [flatR_row, flatL_length] at hlm9
          obtain ⟨A7, n7, c7, hx9, hx9', _, _, hf9, hf9'⟩ := hG.cellW hlt hv9 (k := k) (by omega)
          have hsame : set2 ((rowsAt Ws ((infW, 0) : LW) i 0).set i (List.replicate k ((infW, 0) : LW) ++ List.replicate (q - k) ((0, 0) : LW))) i k ((infW, 0) : LW) = (rowsAt Ws ((infW, 0) : LW) i 0).set i (List.replicate (k + 1) ((infW, 0) : LW) ++ List.replicate (q - (k + 1)) ((0, 0) : LW)) := by
            unfold set2
            rw [hrw, replicate_more _ _ hltk, List.set_set]
          have HSAME := hide hsame
          have HRG := hide (And.intro hv9 (show k < (((rowsAt Ws ((infW, 0) : LW) i 0).set i (List.replicate k ((infW, 0) : LW) ++ List.replicate (q - k) ((0, 0) : LW))).getD i []).length by omega))
          obtain ⟨W, hWd⟩ : ∃ W : World, W = wr := ⟨_, rfl⟩
          subst hWd
          have K0 := hide (stays hsl9)
          have K1 := hide (stays hx9)
          have K2 := hide (stays hx9')
          have K3 := hide (staysF hx9 hf9)
          have K4 := hide (staysF hx9' hf9')
          have q1 : (k : Int) < (m9 : Int) := by omega
          have q2 : (i : Int) < (nW : Int) := by omega
          clear hrw hlr hsame hv9 hx9 hx9' hf9 hf9' hsl9 hlm9
          go_wp2_with fail
          refine wp_region_tab 6 117 [IsV (.slice (some ⟨W0.heap.size, 0, none⟩) nW nW), IsV (.int .i64 (i : Int)), IsV (.pointer (some ⟨W0.heap.size, i, none⟩)), IsV (.slice (some ⟨b9, 0, none⟩) m9 e9), IsV (.int .i64 (k : Int)), IsLW ((infW, 0)) 200] (From W) (by kernel_rfl) (by kernel_rfl) (by kernel_rfl) rfl From.lasts (From.drew (From.refl W)) ?_
          simp only [List.take_succ_cons, List.drop_succ_cons, List.take_zero, List.drop_zero]
          refine Tab.cons IsV.lasting (fun wx hx hd => ?_) (fun v41 => ?_)
          · skip
            clear hd
            intro KK hK
            go_simp
            exact hK.out _ _ rfl (Below.refl _ _)
          simp only [Act.put, List.setIfInBounds_toArray, List.set_cons_zero, List.set_cons_succ]
          refine Tab.cons IsV.lasting (fun wx hx hd => ?_) (fun v42 => ?_)
          · skip
            clear hd
            intro KK hK
            go_simp
            exact hK.out _ _ rfl (Below.refl _ _)
          simp only [Act.put, List.setIfInBounds_toArray, List.set_cons_zero, List.set_cons_succ]
          refine Tab.cons IsV.lasting (fun wx hx hd => ?_) (fun v43 => ?_)
          · skip
            have e41 : v41 = _ := (hd _ (.tail _ (.head _)) (by kernel_rfl) : (IsV (.slice (some ⟨W0.heap.size, 0, none⟩) nW nW)) v41 wx)
            subst e41
            have e42 : v42 = _ := (hd _ (.head _) (by kernel_rfl) : (IsV (.int .i64 (i : Int))) v42 wx)
            subst e42
            clear hd
            intro KK hK
            go_simp
            exact hK.out _ _ rfl (Below.refl _ _)
          simp only [Act.put, List.setIfInBounds_toArray, List.set_cons_zero, List.set_cons_succ]
          refine Tab.cons IsV.lasting (fun wx hx hd => ?_) (fun v44 => ?_)
          · skip
            have e43 : v43 = _ := (hd _ (.head _) (by kernel_rfl) : (IsV (.pointer (some ⟨W0.heap.size, i, none⟩))) v43 wx)
            subst e43
            clear hd
            intro KK hK
            have hcell0 := K0.out _ hx
            go_simp
            exact hK.out _ _ rfl (Below.refl _ _)
          simp only [Act.put, List.setIfInBounds_toArray, List.set_cons_zero, List.set_cons_succ]
          refine Tab.cons IsV.lasting (fun wx hx hd => ?_) (fun v45 => ?_)
          · skip
            clear hd
            intro KK hK
            go_simp
            exact hK.out _ _ rfl (Below.refl _ _)
          simp only [Act.put, List.setIfInBounds_toArray, List.set_cons_zero, List.set_cons_succ]
          refine Tab.cons IsLW.lasting (fun wx hx hd => ?_) (fun v46 => ?_)
          · skip
            clear hd
            intro KK hK
            go_simp
            refine (none_any _ 200).mono ?_
            rintro e w' ⟨A', n', c', rfl, hc', hb'⟩
            exact hK.out _ _ ⟨A', n', c', rfl, hc'⟩ hb'
          simp only [Act.put, List.setIfInBounds_toArray, List.set_cons_zero, List.set_cons_succ]
          refine Tab.nil fun wx hx hd => ?_
          have e44 : v44 = _ := (hd _ (.tail _ (.tail _ (.head _))) : (IsV (.slice (some ⟨b9, 0, none⟩) m9 e9)) v44 wx)
          subst e44
          have e45 : v45 = _ := (hd _ (.tail _ (.head _)) : (IsV (.int .i64 (k : Int))) v45 wx)
          subst e45
          obtain ⟨A46, n46, c46, rfl, h46⟩ := (hd _ (.head _) : (IsLW ((infW, 0)) 200) v46 wx)
          clear hd
          have hcellL := K1.out _ hx
          have hcellL2 := K2.out _ hx
          have hfrL := K3.out _ hx
          have hfrL2 := K4.out _ hx
          have hGs := (hG.below hx.out).store2 (i := i) hlt HRG.out.1 (k := k) HRG.out.2 (x := ((infW, 0) : LW)) ⟨by decide, by decide⟩ h46.num h46.hn
          have hBs : Below W0.heap.size W0 ((wx.setCell ⟨b9, k * 2, none⟩ (.int .i64 infW)).setCell ⟨b9, k * 2 + 1, none⟩ (.slice A46 n46 c46)) := ((hS2.trans (hx.out.mono hS2.size)).setCell hba9 _).setCell hba9 _
          have hsm := HSAME.out
          rw [hsm] at hGs
          have HGS := hide (And.intro hGs hBs)
          clear hGs hBs hsm hG hS2 q2
          go_wp2
          go_roundw
          case rel => exact ⟨k + 1, by omega, by go_num, HGS.out.1, HGS.out.2⟩
          case measure => simp [intOf]; omega
        · obtain rfl : k = q := by omega
          have HR : Hid ((rowsAt Ws ((infW, 0) : LW) i 0).set i (List.replicate k ((infW, 0) : LW) ++ List.replicate (k - k) ((0, 0) : LW)) = rowsAt Ws ((infW, 0) : LW) (i + 1) 0) := by
            have := rowsAt_set (W := Ws) (z := ((infW, 0) : LW)) hil
            rw [HQ.out] at this
            rw [Hid, Nat.sub_self, List.replicate_zero, List.append_nil]
            exact this
          go_wp2
          go_roundw
          case rel => exact ⟨i + 1, vs', by omega, by go_num, by rw [← HR.out]; exact hG, hS2⟩
          case measure => simp [intOf]; omega
    · have hiN : i = nW := by omega
      have HR : Hid (rowsAt Ws ((infW, 0) : LW) i 0 = initR Ws ((infW, 0) : LW)) := by
        have := rowsAt_end Ws ((infW, 0) : LW)
        rw [HN.out.1] at this
        rw [hiN]
        exact this
      rw [HR.out] at hG
      clear hiN
      have hfit0 : RowsFit Ws (initR Ws ((infW, 0) : LW)) := RowsFit.init _ fun i hi => (HLay.out.wide i hi).1
      have hl0 : 0 < ((initR Ws ((infW, 0) : LW)).getD 0 []).length := by
        have h8 := hfit0.row 0 (by rw [HN.out.1]; exact hr0W)
        have h9 := (HLay.out.wide 0 (by rw [HN.out.1]; exact hr0W)).1
        omega
      obtain ⟨b0, m0, e0, hv0, hsl0, hb0a, hb0b, hme, hem, hlm⟩ := hG.row hr0W (by rw [flatR_row, flatL_length]; omega)
      rw [flatR_row, flatL_length] at hlm
      obtain ⟨A0, na0, ca0, hx0, hx1, hr0, hr1, hf0, hf1⟩ := hG.cellW hr0W hv0 hl0
      rw [Nat.zero_mul] at hx0 hx1 hf0 hf1
      rw [Nat.zero_add] at hx1 hf1
      obtain ⟨W, hWd⟩ : ∃ W : World, W = wr := ⟨_, rfl⟩
      subst hWd
      have K0 := hide (stays hsl0)
      have K1 := hide (stays hx0)
      have K2 := hide (staysF hx0 hf0)
      have K3 := hide (stays hx1)
      have K4 := hide (staysF hx1 hf1)
      have hm0 : (0 : Int) < (m0 : Int) := by omega
      have hnWi : (0 : Int) < (nW : Int) := by omega
      go_wp2_with fail
      refine wp_region_tab 5 117 [IsV (.slice (some ⟨W0.heap.size, 0, none⟩) nW nW), IsV (.pointer (some ⟨W0.heap.size, 0, none⟩)), IsV (.slice (some ⟨b0, 0, none⟩) m0 e0), IsNum (1) 1, IsL40 (0) 1 1] (From W) (by kernel_rfl) (by kernel_rfl) (by kernel_rfl) rfl From.lasts (From.drew (From.refl W)) ?_
      simp only [List.take_succ_cons, List.drop_succ_cons, List.take_zero, List.drop_zero]
      refine Tab.cons IsV.lasting (fun wx hx hd => ?_) (fun v48 => ?_)
      · skip
        clear hd
        intro KK hK
        go_simp
        exact hK.out _ _ rfl (Below.refl _ _)
      simp only [Act.put, List.setIfInBounds_toArray, List.set_cons_zero, List.set_cons_succ]
      refine Tab.cons IsV.lasting (fun wx hx hd => ?_) (fun v49 => ?_)
      · skip
        have e48 : v48 = _ := (hd _ (.head _) (by kernel_rfl) : (IsV (.slice (some ⟨W0.heap.size, 0, none⟩) nW nW)) v48 wx)
        subst e48
        clear hd
        intro KK hK
        go_simp
        exact hK.out _ _ rfl (Below.refl _ _)
      simp only [Act.put, List.setIfInBounds_toArray, List.set_cons_zero, List.set_cons_succ]
      refine Tab.cons IsV.lasting (fun wx hx hd => ?_) (fun v50 => ?_)
      · skip
        have e49 : v49 = _ := (hd _ (.head _) (by kernel_rfl) : (IsV (.pointer (some ⟨W0.heap.size, 0, none⟩))) v49 wx)
        subst e49
        clear hd
        intro KK hK
        have hcell0 := K0.out _ hx
        go_simp
        exact hK.out _ _ rfl (Below.refl _ _)
      simp only [Act.put, List.setIfInBounds_toArray, List.set_cons_zero, List.set_cons_succ]
      refine Tab.cons IsNum.lasting (fun wx hx hd => ?_) (fun v51 => ?_)
      · skip
        clear hd
        intro KK hK
        go_simp
        refine (rof_any 1 _ (by omega)).mono ?_
        rintro e w' ⟨A', n', c', rfl, h', hb'⟩
        have h9 : Rd w' A' n' c' (limbs 1) := by simpa only [val_limbs] using h'
        exact hK.out _ _ ⟨A', n', c', rfl, h9, by rw [← h9.len]; exact length_limbs_le (by omega)⟩ hb'
      simp only [Act.put, List.setIfInBounds_toArray, List.set_cons_zero, List.set_cons_succ]
      refine Tab.cons IsL40.lasting (fun wx hx hd => ?_) (fun v52 => ?_)
      · skip
        obtain ⟨A51, n51, c51, rfl, h51, k51⟩ := (hd _ (.head _) (by kernel_rfl) : (IsNum (1) 1) v51 wx)
        clear hd
        intro KK hK
        go_simp
        exact hK.out _ _ ⟨A51, n51, c51, rfl, h51, k51⟩ (Below.refl _ _)
      simp only [Act.put, List.setIfInBounds_toArray, List.set_cons_zero, List.set_cons_succ]
      refine Tab.nil fun wx hx hd => ?_
      have e50 : v50 = _ := (hd _ (.tail _ (.tail _ (.head _))) : (IsV (.slice (some ⟨b0, 0, none⟩) m0 e0)) v50 wx)
      subst e50
      obtain ⟨A52, n52, c52, rfl, h52, k52⟩ := (hd _ (.head _) : (IsL40 (0) 1 1) v52 wx)
      clear hd
      have hcell0 := K1.out _ hx
      have hcell1 := K3.out _ hx
      have hfr0 := K2.out _ hx
      have hfr1 := K4.out _ hx
      have hGs : GridR (leastC 200) (.inl 0) ((wx.setCell ⟨b0, 0, none⟩ (.int .i64 0)).setCell ⟨b0, 1, none⟩ (.slice A52 n52 c52)) W0.heap.size 48 51 2 (some ⟨W0.heap.size, 0, none⟩) nW nW vs (flatR (set2 (initR Ws ((infW, 0) : LW)) 0 0 ((0, 1) : LW))) := (hG.below hx.out).store2 hr0W hv0 hl0 (x := ((0, 1) : LW)) ⟨by decide, by decide⟩ h52 (Nat.le_trans k52 (by omega))
      have hBs : Below W0.heap.size W0 ((wx.setCell ⟨b0, 0, none⟩ (.int .i64 0)).setCell ⟨b0, 1, none⟩ (.slice A52 n52 c52)) := ((hS1.trans (hx.out.mono hS1.size)).setCell hb0a _).setCell hb0a _
      have hfit1 := hfit0.set2 0 0 ((0, 1) : LW)
      have HF1 := hide hfit1
      have hcb2 := (hBs.cell (p := ⟨w.heap.size, 1, none⟩) HZ.out).trans HC1.out
      have HGS := hide (And.intro hGs hBs)
      clear hGs hBs hfit1 hfit0 hl0 hv0 hr0 hr1 hme hem hlm hG HR hlt K0 K1 K2 K3 K4 hnWi hx0 hx1 hf0 hf1 hsl0
      go_wp2_with fail
      clear hcb0 hcb2 hm0 hr0i hcell0 hcell1 hfr0 hfr1 hx

      go_loopw [8] (fun iv wr => ∃ (i : Nat) (R : List (List LW)), i ≤ nE ∧ iv = .int .i64 (i : Int) ∧ GridR (leastC 200) (.inl 0) wr W0.heap.size 48 51 2 (some ⟨W0.heap.size, 0, none⟩) nW nW vs (flatR R) ∧ RowsFit Ws R ∧ fwdAll ((infW, 0) : LW) upLI R i (ee.drop i) (V.drop i) = FIN ∧ BL i 0 R ∧ Below W0.heap.size W0 wr) (fun iv _ => nE - (intOf iv).toNat)
      case atStart => exact ⟨0, _, Nat.zero_le _, rfl, HGS.out.1, HF1.out, HFIN.out, BL.init, HGS.out.2⟩
      case round =>
      clear HF1 HFIN HGS hr0W hb0a hb0b hS1 hi
      obtain ⟨i, R, hi, rfl, hG, hfit1, hex, hinv, hS1⟩ := hrel
      have HX := hide hex
      have HFIT := hide hfit1
      have hcb1 := (hS1.cell (p := ⟨w.heap.size, 1, none⟩) HZ.out).trans HC1.out
      clear hex hfit1
      by_cases hlt : i < nE
      ·
        obtain ⟨b, off, rfl, hb, hcells⟩ := h2.cells (by omega)
        obtain ⟨Aj, nj, cj, hcellE0, hrd⟩ := hcells i hlt
        have hnj63 := hrd.le63
        have HL := hide hrd.len
        obtain ⟨bV, oV, Ai, mi, ei, rfl, hbV, hcellV, hrdV⟩ := h3.at (show i < n by have := HSZ.out; omega)
        have HLV := hide hrdV.len
        have hmn : mi = nj := by
          have h8 := HLENS.out i hlt
          have h7 := hrdV.len
          have h6 := hrd.len
          omega
        obtain rfl : nj = mi := hmn.symm
        have hst := fwdAll_step (d := ((infW, 0) : LW)) (up := upLI) (R := R) (ee := ee) (vv := V) (i := i) (by have := HN.out; omega) (by have := HN.out; have := HSZ.out; omega)
        rw [HX.out] at hst
        have HST := hide hst.symm
        have HOK := hide (fun j (hj : j < (ee.getD i []).length) => HLay.out.ok i j (by have := HN.out; omega) hj)
        clear hst hcells HX hmn
        have HFEW := hide (show (ee.getD i []).length ≤ 262144 from HLay.out.edges i (by have := HN.out; omega))
        have HXB2 : Hid (∀ j, 0 ≤ (V.getD i []).getD j 0 ∧ (V.getD i []).getD j 0 ≤ 8) := fun j => hxb i j
        generalize ee.getD i [] = es at *
        generalize V.getD i [] = xs at *
        have HCV := hide hcellV
        have HCE := hide hcellE0
        obtain ⟨wo, rfl⟩ : ∃ wo : World, wo = wr := ⟨_, rfl⟩
        clear hcellV hcellE0
        have hiE : (i : Int) < (nE : Int) := by omega
        go_wp2_with fail
        clear hcb1
        go_loopw [9, 10, 11] (fun jv _ _ wr => ∃ (j : Nat) (R : List (List LW)), j ≤ nj ∧ jv = .int .i64 (j : Int) ∧ GridR (leastC 200) (.inl 0) wr W0.heap.size 48 51 2 (some ⟨W0.heap.size, 0, none⟩) nW nW vs (flatR R) ∧ RowsFit Ws R ∧ fwdAll ((infW, 0) : LW) upLI (sec (fwd1 ((infW, 0) : LW) upLI i) R (es.drop j) (xs.drop j)) (i + 1) (ee.drop (i + 1)) (V.drop (i + 1)) = FIN ∧ BL i j R ∧ Below W0.heap.size W0 wr) (fun jv _ _ _ => nj - (intOf jv).toNat)
        case atStart => exact ⟨0, R, Nat.zero_le _, rfl, hG, HFIT.out, HST.out, hinv, hS1⟩
        case round =>
          clear hS1 hG HFIT HST hinv
          obtain ⟨j, R, hj, rfl, hG, hfit2, hex2, hinv, hS2⟩ := hrel
          have HX2 := hide hex2
          have HFIT := hide hfit2
          have hcb1 := (hS2.cell (p := ⟨w.heap.size, 1, none⟩) HZ.out).trans HC1.out
          have hcell := (hS2.cell (p := ⟨b, off + i, none⟩) hb).trans HCE.out
          clear hex2 hfit2
          by_cases hltj : j < nj
          · obtain ⟨bE, oE, rfl, hbE, hcE⟩ := (hrd.below hS2).cells (by omega)
            obtain ⟨hc0, hc1, hc2⟩ := hcE j hltj
            have hok := HOK.out j (by rw [HL.out]; exact hltj)
            have hst2 := sec_step (one := fwd1 ((infW, 0) : LW) upLI i) (R := R) (es := es) (vs := xs) (j := j) (0, 0, 0) 0 (by rw [HL.out]; exact hltj) (by rw [HLV.out]; omega)
            rw [hst2] at HX2
            obtain ⟨bi, oi, vX, rfl, hbi, hcX, hvX⟩ := hrdV.at1 hltj
            obtain ⟨rfl, hxr1, hxr2⟩ := hvX
            have HXB9 := HXB2.out j
            clear hst2 hcE
            generalize es.getD j (0, 0, 0) = ed at *
            generalize xs.getD j 0 = x at *
            obtain ⟨ef, el, et⟩ := ed
            simp only at hc0 hc1 hc2 hok
            obtain ⟨o1, o2, o3, o4⟩ := hok
            obtain ⟨fr, rfl⟩ : ∃ fr : Nat, ef = (fr : Int) := ⟨ef.toNat, by omega⟩
            obtain ⟨tt, rfl⟩ : ∃ tt : Nat, et = (tt : Int) := ⟨et.toNat, by omega⟩
            have hnw := HSZ.out.1
            have hfr := HFIT.out.row i (by rw [HN.out.1]; omega)
            have htt := HFIT.out.row (i + 1) (by rw [HN.out.1]; omega)
            have hiW : i < nW := by omega
            have hiW1 : i + 1 < nW := by omega
            have hfrl : fr < (R.getD i []).length := by omega
            have httl : tt < (R.getD (i + 1) []).length := by omega
            have HCV2 := hide ((hS2.cell (p := ⟨bV, oV + i, none⟩) hbV).trans HCV.out)
            have HCX2 := hide ((hS2.cell (p := ⟨bi, oi + j, none⟩) hbi).trans hcX)
            have HHI := hide (And.intro hiW (And.intro hiW1 (And.intro hfrl httl)))
            clear hfr htt o1 o2 o3 o4 hnw hiW hiW1 hfrl httl hcX
            go_wp2_with fail
            obtain ⟨U, hUd⟩ : ∃ U, U = wr.alloc (.cells #[.int .i64 (fr : Int), .int .i64 el, .int .i64 (tt : Int)] 73) := ⟨_, rfl⟩
            have hB2 : Below wr.heap.size wr U := by rw [hUd]; exact below_alloc wr _
            have ke0 : U.cell? ⟨wr.heap.size, 0, none⟩ = some (.int .i64 (fr : Int)) := by rw [hUd, cell_of_row _ _ _ _ _ _ (heap_alloc_new wr _)]; rfl
            have kt0 : U.cell? ⟨wr.heap.size, 2, none⟩ = some (.int .i64 (tt : Int)) := by rw [hUd, cell_of_row _ _ _ _ _ _ (heap_alloc_new wr _)]; rfl
            have hzU : wr.heap.size < U.heap.size := by rw [hUd]; simp
            rw [← hUd]
            have HKE := hide (And.intro ke0 (And.intro kt0 hzU))
            have KV := hide (stays (W := U) ((hB2.cell (p := ⟨bV, oV + i, none⟩) (Nat.lt_of_lt_of_le hbV hS2.size)).trans HCV2.out))
            have KX := hide (stays (W := U) ((hB2.cell (p := ⟨bi, oi + j, none⟩) (Nat.lt_of_lt_of_le hbi hS2.size)).trans HCX2.out))
            have HBU := hide hB2
            have HGG := hide (And.intro hG hS2)
            have q5 : (j : Int) < (nj : Int) := by omega
            have q6 : (i : Int) < (n : Int) := by have := HSZ.out; omega
            clear ke0 kt0 hzU hB2 hUd hG hS2 hc0 hc1 hc2 hcb1 hcell
            refine wp_region_tab 10 117 [IsV (.slice (some ⟨bV, oV, none⟩) n c), IsV (.int .i64 (i : Int)), IsV (.pointer (some ⟨bV, oV + i, none⟩)), IsV (.slice (some ⟨bi, oi, none⟩) nj ei), IsV (.int .i64 (j : Int)), IsV (.pointer (some ⟨bi, oi + j, none⟩)), IsV (.int .i64 x), IsNum (1) 1, IsL40 (x) 1 1, IsBoxW U.heap.size] (From U) (by kernel_rfl) (by kernel_rfl) (by kernel_rfl) rfl From.lasts (From.drew (From.refl U)) ?_
            simp only [List.take_succ_cons, List.drop_succ_cons, List.take_zero, List.drop_zero]
            refine Tab.cons IsV.lasting (fun wx hx hd => ?_) (fun v79 => ?_)
            · skip
              clear hd
              intro KK hK
              go_simp
              exact hK.out _ _ rfl (Below.refl _ _)
            simp only [Act.put, List.setIfInBounds_toArray, List.set_cons_zero, List.set_cons_succ]
            refine Tab.cons IsV.lasting (fun wx hx hd => ?_) (fun v80 => ?_)
            · skip
              clear hd
              intro KK hK
              go_simp
              exact hK.out _ _ rfl (Below.refl _ _)
            simp only [Act.put, List.setIfInBounds_toArray, List.set_cons_zero, List.set_cons_succ]
            refine Tab.cons IsV.lasting (fun wx hx hd => ?_) (fun v81 => ?_)
            · skip
              have e79 : v79 = _ := (hd _ (.tail _ (.head _)) (by kernel_rfl) : (IsV (.slice (some ⟨bV, oV, none⟩) n c)) v79 wx)
              subst e79
              have e80 : v80 = _ := (hd _ (.head _) (by kernel_rfl) : (IsV (.int .i64 (i : Int))) v80 wx)
              subst e80
              clear hd
              intro KK hK
              go_simp
              exact hK.out _ _ rfl (Below.refl _ _)
            simp only [Act.put, List.setIfInBounds_toArray, List.set_cons_zero, List.set_cons_succ]
            refine Tab.cons IsV.lasting (fun wx hx hd => ?_) (fun v82 => ?_)
            · skip
              have e81 : v81 = _ := (hd _ (.head _) (by kernel_rfl) : (IsV (.pointer (some ⟨bV, oV + i, none⟩))) v81 wx)
              subst e81
              clear hd
              intro KK hK
              have hcell0 := KV.out _ hx
              go_simp
              exact hK.out _ _ rfl (Below.refl _ _)
            simp only [Act.put, List.setIfInBounds_toArray, List.set_cons_zero, List.set_cons_succ]
            refine Tab.cons IsV.lasting (fun wx hx hd => ?_) (fun v83 => ?_)
            · skip
              clear hd
              intro KK hK
              go_simp
              exact hK.out _ _ rfl (Below.refl _ _)
            simp only [Act.put, List.setIfInBounds_toArray, List.set_cons_zero, List.set_cons_succ]
            refine Tab.cons IsV.lasting (fun wx hx hd => ?_) (fun v84 => ?_)
            · skip
              have e82 : v82 = _ := (hd _ (.tail _ (.head _)) (by kernel_rfl) : (IsV (.slice (some ⟨bi, oi, none⟩) nj ei)) v82 wx)
              subst e82
              have e83 : v83 = _ := (hd _ (.head _) (by kernel_rfl) : (IsV (.int .i64 (j : Int))) v83 wx)
              subst e83
              clear hd
              intro KK hK
              go_simp
              exact hK.out _ _ rfl (Below.refl _ _)
            simp only [Act.put, List.setIfInBounds_toArray, List.set_cons_zero, List.set_cons_succ]
            refine Tab.cons IsV.lasting (fun wx hx hd => ?_) (fun v85 => ?_)
            · skip
              have e84 : v84 = _ := (hd _ (.head _) (by kernel_rfl) : (IsV (.pointer (some ⟨bi, oi + j, none⟩))) v84 wx)
              subst e84
              clear hd
              intro KK hK
              have hcell0 := KX.out _ hx
              go_simp
              exact hK.out _ _ rfl (Below.refl _ _)
            simp only [Act.put, List.setIfInBounds_toArray, List.set_cons_zero, List.set_cons_succ]
            refine Tab.cons IsNum.lasting (fun wx hx hd => ?_) (fun v86 => ?_)
            · skip
              clear hd
              intro KK hK
              go_simp
              refine (rof_any 1 _ (by omega)).mono ?_
              rintro e w' ⟨A', n', c', rfl, h', hb'⟩
              have h9 : Rd w' A' n' c' (limbs 1) := by simpa only [val_limbs] using h'
              exact hK.out _ _ ⟨A', n', c', rfl, h9, by rw [← h9.len]; exact length_limbs_le (by omega)⟩ hb'
            simp only [Act.put, List.setIfInBounds_toArray, List.set_cons_zero, List.set_cons_succ]
            refine Tab.cons IsL40.lasting (fun wx hx hd => ?_) (fun v87 => ?_)
            · skip
              have e85 : v85 = _ := (hd _ (.tail _ (.head _)) (by kernel_rfl) : (IsV (.int .i64 x)) v85 wx)
              subst e85
              obtain ⟨A86, n86, c86, rfl, h86, k86⟩ := (hd _ (.head _) (by kernel_rfl) : (IsNum (1) 1) v86 wx)
              clear hd
              intro KK hK
              go_simp
              exact hK.out _ _ ⟨A86, n86, c86, rfl, h86, k86⟩ (Below.refl _ _)
            simp only [Act.put, List.setIfInBounds_toArray, List.set_cons_zero, List.set_cons_succ]
            refine Tab.cons IsBoxW.lasting (fun wx hx hd => ?_) (fun v11 => ?_)
            · skip
              clear hd
              intro KK hK
              go_simp
              exact hK.out _ _ ⟨_, hx.out.size, rfl, BoxW.new _ _ _ _ _⟩ (below_alloc _ _)
            simp only [Act.put, List.setIfInBounds_toArray, List.set_cons_zero, List.set_cons_succ]
            refine Tab.nil fun wx hx hd => ?_
            obtain ⟨A87, n87, c87, rfl, h87, k87⟩ := (hd _ (.tail _ (.head _)) : (IsL40 (x) 1 1) v87 wx)
            obtain ⟨g11, j11, rfl, h11⟩ := (hd _ (.head _) : (IsBoxW U.heap.size) v11 wx)
            clear hd
            have hx11 := h11.cells
            have hf11 := h11.free
            have o11 := onlyW wx g11 (.int .i64 x) (.slice A87 n87 c87)
            have p11 := h11.store x A87 n87 c87
            have d11 := h87.farW o11 h11.noLimb
            have hB3 := belowW (g := g11) hx.out j11 (.int .i64 x) (.slice A87 n87 c87)
            have HF := hide (And.intro p11 (And.intro d11 hB3))
            clear p11 d11 hB3 o11 h11 h87 hx KV KX j11 q5 q6
            go_upto_region 19 with (fail)
            obtain ⟨p11, d11, hB3⟩ := HF.out
            clear HF hx11 hf11
            obtain ⟨W, hWd⟩ : ∃ W, W = (wx.setCell ⟨g11, 0, none⟩ (.int .i64 x)).setCell ⟨g11, 1, none⟩ (.slice A87 n87 c87) := ⟨_, rfl⟩
            rw [← hWd] at p11 d11 hB3
            rw [← hWd]
            clear hWd
            obtain ⟨hG, hS2⟩ := HGG.out
            obtain ⟨ke0, kt0, hzU⟩ := HKE.out
            have hB2 := HBU.out.trans (hB3.mono HBU.out.size)
            have KE := hide (stays (W := W) ((hB3.cell (p := ⟨wr.heap.size, 0, none⟩) hzU).trans ke0))
            have KT := hide (stays (W := W) ((hB3.cell (p := ⟨wr.heap.size, 2, none⟩) hzU).trans kt0))
            have KB := hide (stays (W := W) p11.cells.1)
            have KB2 := hide (stays (W := W) p11.cells.2)
            have hcx : CanW ((x, 1) : LW) := .inr ⟨HXB9.1, by have hi : infW = 4611686018427387904 := rfl; have := HXB9.2; show x < infW; omega, by show (1 : Nat) ≠ 0; decide⟩
            have RX := hide (CanLW.mk (x := ((x, 1) : LW)) d11 k87 hcx)
            obtain ⟨hiW, hiW1, hfrl, httl⟩ := HHI.out
            have hGW := hG.below hB2
            obtain ⟨b1, m1, e1, hv1, hsl1, hb1a, hb1b, _, _, hlm1⟩ := hGW.row hiW1 (by rw [flatR_row, flatL_length]; omega)
            rw [flatR_row, flatL_length] at hlm1
            obtain ⟨b0, m0, e0, hv0, hsl0, hb0a, hb0b, _, _, hlm0⟩ := hGW.row hiW (by rw [flatR_row, flatL_length]; omega)
            rw [flatR_row, flatL_length] at hlm0
            obtain ⟨AL, nL, cL, hxT, hxT2, hRT, hKT, hfT, hfT2⟩ := hGW.cellW hiW1 hv1 httl
            obtain ⟨AS, nS, cS, hxF, hxF2, hRF, hKF, hfF, hfF2⟩ := hGW.cellW hiW hv0 hfrl
            have RL := hide (CanLW.mk hRT hKT (hinv (i + 1) tt).1)
            have RS := hide (CanLW.mk hRF hKF (hinv i fr).1)
            have K1 := hide (stays hsl1)
            have K0 := hide (stays hsl0)
            have KLT := hide (stays hxT)
            have KLT2 := hide (stays hxT2)
            have KLF := hide (stays hxF)
            have KLF2 := hide (stays hxF2)
            have KF := hide (staysF hxT hfT)
            have KF2 := hide (staysF hxT2 hfT2)
            have HUP : Hid (fwd1 ((infW, 0) : LW) upLI i R ((fr : Int), el, (tt : Int)) x = set2 R (i + 1) tt (upLI (at2 ((infW, 0) : LW) R (i + 1) tt) (at2 ((infW, 0) : LW) R i fr) x)) := by
              simp [Hid, fwd1]
            have HS2 := hide (hS2.trans (hB2.mono hS2.size))
            have hbig := BL.step hinv (fr := fr) (tt := tt) (x := ((x, 1) : LW)) hcx (by show (1 : Nat) < _; decide) (by omega) (by have := HFEW.out; have := HL.out; omega)
            have HBIG := hide hbig
            clear hbig hinv hcx
            have q1 : (fr : Int) < (m0 : Int) := by omega
            have q2 : (tt : Int) < (m1 : Int) := by omega
            have q3 : (i : Int) + 1 < (nW : Int) := by omega
            have q4 : (i : Int) < (nW : Int) := by omega
            have q7 : ((i : Int) + 1).toNat = i + 1 := by omega
            have q8 : (0 : Int) ≤ (i : Int) + 1 := by omega
            have HRG := hide (And.intro hv1 httl)
            clear hsl1 hsl0 hxT hfT hxF hfF hxT2 hfT2 hxF2 hfF2 hB2 hS2 hG hlm1 hlm0 hfrl httl hv0 hv1 hRT hRF ke0 kt0 hzU hB3 p11 d11 HGG HKE HBU HHI
            generalize hlv : at2 ((infW, 0) : LW) R (i + 1) tt = l at *
            generalize hsv : at2 ((infW, 0) : LW) R i fr = s at *
            have HE9 := hide (And.intro hlv hsv)
            clear hlv hsv
            refine wp_region_tab 27 117 [IsV (.slice (some ⟨W0.heap.size, 0, none⟩) nW nW), IsV (.int .i64 (i : Int)), IsV (.int .i64 ((i : Int) + 1)), IsV (.pointer (some ⟨W0.heap.size, i + 1, none⟩)), IsV (.slice (some ⟨b1, 0, none⟩) m1 e1), IsV (.pointer (some ⟨wr.heap.size, 2, none⟩)), IsV (.int .i64 (tt : Int)), IsV (.slice (some ⟨W0.heap.size, 0, none⟩) nW nW), IsV (.int .i64 (i : Int)), IsV (.int .i64 ((i : Int) + 1)), IsV (.pointer (some ⟨W0.heap.size, i + 1, none⟩)), IsV (.slice (some ⟨b1, 0, none⟩) m1 e1), IsV (.pointer (some ⟨wr.heap.size, 2, none⟩)), IsV (.int .i64 (tt : Int)), IsV (.pointer (some ⟨b1, tt * 2, none⟩)), IsV (.agg #[.int .i64 l.1, .slice AL nL cL]), IsV (.slice (some ⟨W0.heap.size, 0, none⟩) nW nW), IsV (.int .i64 (i : Int)), IsV (.pointer (some ⟨W0.heap.size, i, none⟩)), IsV (.slice (some ⟨b0, 0, none⟩) m0 e0), IsV (.pointer (some ⟨wr.heap.size, 0, none⟩)), IsV (.int .i64 (fr : Int)), IsV (.pointer (some ⟨b0, fr * 2, none⟩)), IsV (.agg #[.int .i64 s.1, .slice AS nS cS]), IsV (.agg #[.int .i64 x, .slice A87 n87 c87]), IsLW (mulW s ((x, 1) : LW)) 201, IsLW (addW l (mulW s ((x, 1) : LW))) 402] (From W) (by kernel_rfl) (by kernel_rfl) (by kernel_rfl) rfl From.lasts (From.drew (From.refl W)) ?_
            simp only [List.take_succ_cons, List.drop_succ_cons, List.take_zero, List.drop_zero]
            refine Tab.cons IsV.lasting (fun wx hx hd => ?_) (fun v88 => ?_)
            · skip
              clear hd
              intro KK hK
              go_simp
              exact hK.out _ _ rfl (Below.refl _ _)
            simp only [Act.put, List.setIfInBounds_toArray, List.set_cons_zero, List.set_cons_succ]
            refine Tab.cons IsV.lasting (fun wx hx hd => ?_) (fun v89 => ?_)
            · skip
              clear hd
              intro KK hK
              go_simp
              exact hK.out _ _ rfl (Below.refl _ _)
            simp only [Act.put, List.setIfInBounds_toArray, List.set_cons_zero, List.set_cons_succ]
            refine Tab.cons IsV.lasting (fun wx hx hd => ?_) (fun v90 => ?_)
            · skip
              have e89 : v89 = _ := (hd _ (.head _) (by kernel_rfl) : (IsV (.int .i64 (i : Int))) v89 wx)
              subst e89
              clear hd
              intro KK hK
              go_simp
              rw [show IntKind.i64.wrap ((i : Int) + 1) = ((i : Int) + 1) from IntWalk.i64_in _ (by omega)]
              exact hK.out _ _ rfl (Below.refl _ _)
            simp only [Act.put, List.setIfInBounds_toArray, List.set_cons_zero, List.set_cons_succ]
            refine Tab.cons IsV.lasting (fun wx hx hd => ?_) (fun v91 => ?_)
            · skip
              have e88 : v88 = _ := (hd _ (.tail _ (.tail _ (.head _))) (by kernel_rfl) : (IsV (.slice (some ⟨W0.heap.size, 0, none⟩) nW nW)) v88 wx)
              subst e88
              have e90 : v90 = _ := (hd _ (.head _) (by kernel_rfl) : (IsV (.int .i64 ((i : Int) + 1))) v90 wx)
              subst e90
              clear hd
              intro KK hK
              go_simp
              exact hK.out _ _ rfl (Below.refl _ _)
            simp only [Act.put, List.setIfInBounds_toArray, List.set_cons_zero, List.set_cons_succ]
            refine Tab.cons IsV.lasting (fun wx hx hd => ?_) (fun v92 => ?_)
            · skip
              have e91 : v91 = _ := (hd _ (.head _) (by kernel_rfl) : (IsV (.pointer (some ⟨W0.heap.size, i + 1, none⟩))) v91 wx)
              subst e91
              clear hd
              intro KK hK
              have hcell0 := K1.out _ hx
              go_simp
              exact hK.out _ _ rfl (Below.refl _ _)
            simp only [Act.put, List.setIfInBounds_toArray, List.set_cons_zero, List.set_cons_succ]
            refine Tab.cons IsV.lasting (fun wx hx hd => ?_) (fun v93 => ?_)
            · skip
              clear hd
              intro KK hK
              go_simp
              exact hK.out _ _ rfl (Below.refl _ _)
            simp only [Act.put, List.setIfInBounds_toArray, List.set_cons_zero, List.set_cons_succ]
            refine Tab.cons IsV.lasting (fun wx hx hd => ?_) (fun v94 => ?_)
            · skip
              have e93 : v93 = _ := (hd _ (.head _) (by kernel_rfl) : (IsV (.pointer (some ⟨wr.heap.size, 2, none⟩))) v93 wx)
              subst e93
              clear hd
              intro KK hK
              have hcell0 := KT.out _ hx
              go_simp
              exact hK.out _ _ rfl (Below.refl _ _)
            simp only [Act.put, List.setIfInBounds_toArray, List.set_cons_zero, List.set_cons_succ]
            refine Tab.cons IsV.lasting (fun wx hx hd => ?_) (fun v95 => ?_)
            · skip
              clear hd
              intro KK hK
              go_simp
              exact hK.out _ _ rfl (Below.refl _ _)
            simp only [Act.put, List.setIfInBounds_toArray, List.set_cons_zero, List.set_cons_succ]
            refine Tab.cons IsV.lasting (fun wx hx hd => ?_) (fun v96 => ?_)
            · skip
              clear hd
              intro KK hK
              go_simp
              exact hK.out _ _ rfl (Below.refl _ _)
            simp only [Act.put, List.setIfInBounds_toArray, List.set_cons_zero, List.set_cons_succ]
            refine Tab.cons IsV.lasting (fun wx hx hd => ?_) (fun v97 => ?_)
            · skip
              have e96 : v96 = _ := (hd _ (.head _) (by kernel_rfl) : (IsV (.int .i64 (i : Int))) v96 wx)
              subst e96
              clear hd
              intro KK hK
              go_simp
              rw [show IntKind.i64.wrap ((i : Int) + 1) = ((i : Int) + 1) from IntWalk.i64_in _ (by omega)]
              exact hK.out _ _ rfl (Below.refl _ _)
            simp only [Act.put, List.setIfInBounds_toArray, List.set_cons_zero, List.set_cons_succ]
            refine Tab.cons IsV.lasting (fun wx hx hd => ?_) (fun v98 => ?_)
            · skip
              have e95 : v95 = _ := (hd _ (.tail _ (.tail _ (.head _))) (by kernel_rfl) : (IsV (.slice (some ⟨W0.heap.size, 0, none⟩) nW nW)) v95 wx)
              subst e95
              have e97 : v97 = _ := (hd _ (.head _) (by kernel_rfl) : (IsV (.int .i64 ((i : Int) + 1))) v97 wx)
              subst e97
              clear hd
              intro KK hK
              go_simp
              exact hK.out _ _ rfl (Below.refl _ _)
            simp only [Act.put, List.setIfInBounds_toArray, List.set_cons_zero, List.set_cons_succ]
            refine Tab.cons IsV.lasting (fun wx hx hd => ?_) (fun v99 => ?_)
            · skip
              have e98 : v98 = _ := (hd _ (.head _) (by kernel_rfl) : (IsV (.pointer (some ⟨W0.heap.size, i + 1, none⟩))) v98 wx)
              subst e98
              clear hd
              intro KK hK
              have hcell0 := K1.out _ hx
              go_simp
              exact hK.out _ _ rfl (Below.refl _ _)
            simp only [Act.put, List.setIfInBounds_toArray, List.set_cons_zero, List.set_cons_succ]
            refine Tab.cons IsV.lasting (fun wx hx hd => ?_) (fun v100 => ?_)
            · skip
              clear hd
              intro KK hK
              go_simp
              exact hK.out _ _ rfl (Below.refl _ _)
            simp only [Act.put, List.setIfInBounds_toArray, List.set_cons_zero, List.set_cons_succ]
            refine Tab.cons IsV.lasting (fun wx hx hd => ?_) (fun v101 => ?_)
            · skip
              have e100 : v100 = _ := (hd _ (.head _) (by kernel_rfl) : (IsV (.pointer (some ⟨wr.heap.size, 2, none⟩))) v100 wx)
              subst e100
              clear hd
              intro KK hK
              have hcell0 := KT.out _ hx
              go_simp
              exact hK.out _ _ rfl (Below.refl _ _)
            simp only [Act.put, List.setIfInBounds_toArray, List.set_cons_zero, List.set_cons_succ]
            refine Tab.cons IsV.lasting (fun wx hx hd => ?_) (fun v102 => ?_)
            · skip
              have e99 : v99 = _ := (hd _ (.tail _ (.tail _ (.head _))) (by kernel_rfl) : (IsV (.slice (some ⟨b1, 0, none⟩) m1 e1)) v99 wx)
              subst e99
              have e101 : v101 = _ := (hd _ (.head _) (by kernel_rfl) : (IsV (.int .i64 (tt : Int))) v101 wx)
              subst e101
              clear hd
              intro KK hK
              go_simp
              exact hK.out _ _ rfl (Below.refl _ _)
            simp only [Act.put, List.setIfInBounds_toArray, List.set_cons_zero, List.set_cons_succ]
            refine Tab.cons IsV.lasting (fun wx hx hd => ?_) (fun v103 => ?_)
            · skip
              have e102 : v102 = _ := (hd _ (.head _) (by kernel_rfl) : (IsV (.pointer (some ⟨b1, tt * 2, none⟩))) v102 wx)
              subst e102
              clear hd
              intro KK hK
              have hcell0 := KLT.out _ hx
              have hcell1 := KLT2.out _ hx
              go_simp
              exact hK.out _ _ rfl (Below.refl _ _)
            simp only [Act.put, List.setIfInBounds_toArray, List.set_cons_zero, List.set_cons_succ]
            refine Tab.cons IsV.lasting (fun wx hx hd => ?_) (fun v104 => ?_)
            · skip
              clear hd
              intro KK hK
              go_simp
              exact hK.out _ _ rfl (Below.refl _ _)
            simp only [Act.put, List.setIfInBounds_toArray, List.set_cons_zero, List.set_cons_succ]
            refine Tab.cons IsV.lasting (fun wx hx hd => ?_) (fun v105 => ?_)
            · skip
              clear hd
              intro KK hK
              go_simp
              exact hK.out _ _ rfl (Below.refl _ _)
            simp only [Act.put, List.setIfInBounds_toArray, List.set_cons_zero, List.set_cons_succ]
            refine Tab.cons IsV.lasting (fun wx hx hd => ?_) (fun v106 => ?_)
            · skip
              have e104 : v104 = _ := (hd _ (.tail _ (.head _)) (by kernel_rfl) : (IsV (.slice (some ⟨W0.heap.size, 0, none⟩) nW nW)) v104 wx)
              subst e104
              have e105 : v105 = _ := (hd _ (.head _) (by kernel_rfl) : (IsV (.int .i64 (i : Int))) v105 wx)
              subst e105
              clear hd
              intro KK hK
              go_simp
              exact hK.out _ _ rfl (Below.refl _ _)
            simp only [Act.put, List.setIfInBounds_toArray, List.set_cons_zero, List.set_cons_succ]
            refine Tab.cons IsV.lasting (fun wx hx hd => ?_) (fun v107 => ?_)
            · skip
              have e106 : v106 = _ := (hd _ (.head _) (by kernel_rfl) : (IsV (.pointer (some ⟨W0.heap.size, i, none⟩))) v106 wx)
              subst e106
              clear hd
              intro KK hK
              have hcell0 := K0.out _ hx
              go_simp
              exact hK.out _ _ rfl (Below.refl _ _)
            simp only [Act.put, List.setIfInBounds_toArray, List.set_cons_zero, List.set_cons_succ]
            refine Tab.cons IsV.lasting (fun wx hx hd => ?_) (fun v108 => ?_)
            · skip
              clear hd
              intro KK hK
              go_simp
              exact hK.out _ _ rfl (Below.refl _ _)
            simp only [Act.put, List.setIfInBounds_toArray, List.set_cons_zero, List.set_cons_succ]
            refine Tab.cons IsV.lasting (fun wx hx hd => ?_) (fun v109 => ?_)
            · skip
              have e108 : v108 = _ := (hd _ (.head _) (by kernel_rfl) : (IsV (.pointer (some ⟨wr.heap.size, 0, none⟩))) v108 wx)
              subst e108
              clear hd
              intro KK hK
              have hcell0 := KE.out _ hx
              go_simp
              exact hK.out _ _ rfl (Below.refl _ _)
            simp only [Act.put, List.setIfInBounds_toArray, List.set_cons_zero, List.set_cons_succ]
            refine Tab.cons IsV.lasting (fun wx hx hd => ?_) (fun v110 => ?_)
            · skip
              have e107 : v107 = _ := (hd _ (.tail _ (.tail _ (.head _))) (by kernel_rfl) : (IsV (.slice (some ⟨b0, 0, none⟩) m0 e0)) v107 wx)
              subst e107
              have e109 : v109 = _ := (hd _ (.head _) (by kernel_rfl) : (IsV (.int .i64 (fr : Int))) v109 wx)
              subst e109
              clear hd
              intro KK hK
              go_simp
              exact hK.out _ _ rfl (Below.refl _ _)
            simp only [Act.put, List.setIfInBounds_toArray, List.set_cons_zero, List.set_cons_succ]
            refine Tab.cons IsV.lasting (fun wx hx hd => ?_) (fun v111 => ?_)
            · skip
              have e110 : v110 = _ := (hd _ (.head _) (by kernel_rfl) : (IsV (.pointer (some ⟨b0, fr * 2, none⟩))) v110 wx)
              subst e110
              clear hd
              intro KK hK
              have hcell0 := KLF.out _ hx
              have hcell1 := KLF2.out _ hx
              go_simp
              exact hK.out _ _ rfl (Below.refl _ _)
            simp only [Act.put, List.setIfInBounds_toArray, List.set_cons_zero, List.set_cons_succ]
            refine Tab.cons IsV.lasting (fun wx hx hd => ?_) (fun v112 => ?_)
            · skip
              clear hd
              intro KK hK
              have hcell0 := KB.out _ hx
              have hcell1 := KB2.out _ hx
              go_simp
              exact hK.out _ _ rfl (Below.refl _ _)
            simp only [Act.put, List.setIfInBounds_toArray, List.set_cons_zero, List.set_cons_succ]
            refine Tab.cons IsLW.lasting (fun wx hx hd => ?_) (fun v113 => ?_)
            · skip
              have e111 : v111 = _ := (hd _ (.tail _ (.head _)) (by kernel_rfl) : (IsV (.agg #[.int .i64 s.1, .slice AS nS cS])) v111 wx)
              subst e111
              have e112 : v112 = _ := (hd _ (.head _) (by kernel_rfl) : (IsV (.agg #[.int .i64 x, .slice A87 n87 c87])) v112 wx)
              subst e112
              clear hd
              intro KK hK
              go_simp
              refine (rleastMul _ _ _ _ s 200 _ _ _ _ ((x, 1) : LW) 1 _ (RS.out.below hx.out).raw (RX.out.below hx.out).raw (by omega) (by omega)).mono ?_
              rintro e w' ⟨A', n', c', rfl, hc', hb'⟩
              exact hK.out _ _ ⟨A', n', c', rfl, hc'⟩ hb'
            simp only [Act.put, List.setIfInBounds_toArray, List.set_cons_zero, List.set_cons_succ]
            refine Tab.cons IsLW.lasting (fun wx hx hd => ?_) (fun v114 => ?_)
            · skip
              have e103 : v103 = _ := (hd _ (.tail _ (.tail _ (.tail _ (.tail _ (.tail _ (.tail _ (.tail _ (.tail _ (.tail _ (.tail _ (.head _))))))))))) (by kernel_rfl) : (IsV (.agg #[.int .i64 l.1, .slice AL nL cL])) v103 wx)
              subst e103
              obtain ⟨A113, n113, c113, rfl, h113⟩ := (hd _ (.head _) (by kernel_rfl) : (IsLW (mulW s ((x, 1) : LW)) 201) v113 wx)
              clear hd
              intro KK hK
              go_simp
              refine (rleastAdd _ _ _ _ l 200 _ _ _ _ (mulW s ((x, 1) : LW)) 201 _ (RL.out.below hx.out).raw h113.raw (by omega) (by omega)).mono ?_
              rintro e w' ⟨A', n', c', rfl, hc', hb'⟩
              exact hK.out _ _ ⟨A', n', c', rfl, hc'⟩ hb'
            simp only [Act.put, List.setIfInBounds_toArray, List.set_cons_zero, List.set_cons_succ]
            refine Tab.nil fun wx hx hd => ?_
            have e92 : v92 = _ := (hd _ (.tail _ (.tail _ (.tail _ (.tail _ (.tail _ (.tail _ (.tail _ (.tail _ (.tail _ (.tail _ (.tail _ (.tail _ (.tail _ (.tail _ (.tail _ (.tail _ (.tail _ (.tail _ (.tail _ (.tail _ (.tail _ (.tail _ (.head _))))))))))))))))))))))) : (IsV (.slice (some ⟨b1, 0, none⟩) m1 e1)) v92 wx)
            subst e92
            have e94 : v94 = _ := (hd _ (.tail _ (.tail _ (.tail _ (.tail _ (.tail _ (.tail _ (.tail _ (.tail _ (.tail _ (.tail _ (.tail _ (.tail _ (.tail _ (.tail _ (.tail _ (.tail _ (.tail _ (.tail _ (.tail _ (.tail _ (.head _))))))))))))))))))))) : (IsV (.int .i64 (tt : Int))) v94 wx)
            subst e94
            obtain ⟨A114, n114, c114, rfl, h114⟩ := (hd _ (.head _) : (IsLW (addW l (mulW s ((x, 1) : LW))) 402) v114 wx)
            clear hd
            have hcellL := KLT.out _ hx
            have hcellL2 := KLT2.out _ hx
            have hfrL := KF.out _ hx
            have hfrL2 := KF2.out _ hx
            have hGs := (hGW.below hx.out).store2 (i := i + 1) hiW1 HRG.out.1 (k := tt) HRG.out.2 (x := upLI l s x) h114.can.wide2 h114.num (by rw [← h114.num.len]; exact length_limbs_cap HBIG.out.2.2.1)
            have hBs : Below W0.heap.size W0 ((wx.setCell ⟨b1, tt * 2, none⟩ (.int .i64 (addW l (mulW s ((x, 1) : LW))).1)).setCell ⟨b1, tt * 2 + 1, none⟩ (.slice A114 n114 c114)) := ((HS2.out.trans (hx.out.mono HS2.out.size)).setCell hb1a _).setCell hb1a _
            have hFs := HFIT.out.set2 (i + 1) tt (upLI l s x)
            have hX3 := HX2.out
            rw [HUP.out] at hX3
            have HX3 := hide hX3
            have HFs := hide hFs
            clear q3 q4 q7 q8 hX3 hFs
            go_wp2
            go_roundw
            case rel => exact ⟨j + 1, _, by omega, by go_num, hGs, HFs.out, HX3.out, HBIG.out.2.2.2, hBs⟩
            case measure => simp [intOf]; omega
          · obtain rfl : j = nj := by omega
            have hX3 := HX2.out
            rw [sec_end (by rw [HL.out]; exact Nat.le_refl _)] at hX3
            have HX3 := hide hX3
            clear hX3
            have hinv9 := BL.next hinv (by have := HFEW.out; have := HL.out; omega)
            go_wp2
            go_roundw
            case rel => exact ⟨i + 1, R, by omega, by go_num, hG, HFIT.out, HX3.out, hinv9, hS2⟩
            case measure => simp [intOf] <;> omega
      · obtain rfl : i = nE := by omega
        have hX3 := HX.out
        rw [fwdAll_end (by have := HN.out; omega)] at hX3
        subst hX3
        go_wp2
        go_ret
        exact ⟨_, _, _, vs, rfl, hG.lower hS.size, below_step hS1 hS⟩
end Go.Proofs.Ytjadgomakoaibaa
