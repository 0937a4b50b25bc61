/- The walk of the reference's ForwardMin. -/
import Derived.Test.YtjadgomakoaibaaFwdInt
namespace Go.Proofs.Ytjadgomakoaibaa
open Go.RowKit

/-- A new row comes into a grid. -/
theorem GridR.putNew {α : Type} {C : Cells α} {d : α} {w w' : World} {base : Nat} {er e : TypeId} {size : Nat} {g n c : Nat} {vs : List Value} {R : List (List α)}
    (h : GridR C d w base er e size (some ⟨g, 0, none⟩) n c vs R) {i : Nat} (hi : i < n) (hbase : base ≤ w.heap.size) {m c' : Nat} {xs : List Value} {l : List α} (hl : xs.length = l.length)
    (hv : w'.ownsRow w.heap.size e size (.slice (some ⟨w.heap.size, 0, none⟩) m c') m xs) (hb : Below w.heap.size w w')
    (hold : ∀ j k v, j < n → k < (R.getD j []).length → C.rel (at2 d R j k) v w → ∀ w2, C.rel (at2 d R j k) v w2) (hnew : ∀ k, k < l.length → ∀ w2, C.rel (l.getD k d) (xs.getD k undef) w2) :
    GridR C d (w'.setCell ⟨g, i, none⟩ (.slice (some ⟨w.heap.size, 0, none⟩) m c')) base er e size (some ⟨g, 0, none⟩) n c (vs.set i (.slice (some ⟨w.heap.size, 0, none⟩) m c')) (R.set i l) := by
  obtain ⟨rows, g1, g2, g3, g4⟩ := h.ex
  obtain ⟨g', hg', _, hglt⟩ := g1.blk (by omega)
  obtain rfl : g = g' := by injection hg' with h1; injection h1
  have hput := (g1.below hb).put hi (ownsRow_base hv hbase) (fun b hb9 => by
    injection hb9 with hb9
    subst hb9
    refine ⟨by show w.heap.size ≠ g; omega, fun j hj hij e9 => ?_⟩
    obtain ⟨m9, hm9⟩ := g1.inner j hj
    exact absurd (hm9.lt _ e9).2 (Nat.lt_irrefl _))
  refine ⟨_, hput, by rw [List.length_set]; exact g2, fun j hj => ?_, fun j k hj hk => ?_⟩
  · by_cases hij : i = j
    · subst hij
      rw [gset_self _ _ _ (by rw [g1.lenR]; exact hi), gset_self _ _ _ (by omega), hl]
    · rw [gset_ne _ _ _ hij, gset_ne _ _ _ hij]
      exact g3 j hj
  · unfold at2
    by_cases hij : i = j
    · subst hij
      rw [gset_self _ _ _ (by omega)] at hk ⊢
      rw [gset_self _ _ _ (by rw [g1.lenR]; exact hi)]
      exact hnew k hk _
    · rw [gset_ne _ _ _ hij] at hk ⊢
      rw [gset_ne _ _ _ hij]
      exact hold j k _ hj hk (g4 j k hj hk) _
theorem replicate_more {α : Type} (x z : α) {k q : Nat} (h : k < q) : (List.replicate k x ++ List.replicate (q - k) z).set k x = List.replicate (k + 1) x ++ List.replicate (q - (k + 1)) z := by
  obtain ⟨p, hp⟩ : ∃ p, q - k = p + 1 := ⟨q - k - 1, by omega⟩
  have h1 := set_mid (List.replicate k x) z x p
  rw [List.length_replicate] at h1
  rw [hp, h1, show q - (k + 1) = p by omega, List.replicate_succ']
theorem rowsAt_set {α : Type} {W : List Int} {z : α} {i : Nat} (h : i < W.length) : (rowsAt W z i 0).set i (List.replicate (W.getD i 0).toNat z) = rowsAt W z (i + 1) 0 := by
  rw [← rowsAt_next]
  refine rows_ext (by simp [rowsAt_len]) fun j hj => ?_
  rw [List.length_set, rowsAt_len] at hj
  by_cases hij : i = j
  · subst hij
    rw [gset_self _ _ _ (by rw [rowsAt_len]; exact h), rowsAt_row h, if_neg (by omega), if_pos rfl]
  · rw [gset_ne _ _ _ hij, rowsAt_row hj, rowsAt_row hj]
    by_cases h1 : j < i
    · rw [if_pos h1, if_pos h1]
    · rw [if_neg h1, if_neg h1, if_neg (fun e => hij e.symm), if_neg (fun e => hij e.symm)]
/-- The box of a layered graph. -/
theorem boxT (w : World) (AW : Option Addr) (nW cW : Nat) (AE : Option Addr) (nE cE : Nat) :
    ∃ W0, W0 = w.alloc (.cells #[.slice AW nW cW, .slice AE nE cE] 25) ∧ Below w.heap.size w W0 ∧ w.heap.size < W0.heap.size ∧
      W0.cell? ⟨w.heap.size, 0, none⟩ = some (.slice AW nW cW) ∧ W0.cell? ⟨w.heap.size, 1, none⟩ = some (.slice AE nE cE) :=
  ⟨_, rfl, below_alloc w _, by simp, by rw [cell_of_row _ _ _ _ _ _ (heap_alloc_new w _)]; rfl, by rw [cell_of_row _ _ _ _ _ _ (heap_alloc_new w _)]; rfl⟩
theorem cAdd_sum' {l x : Int} (h : 0 ≤ l ∧ l ≤ 4611686018427387904) : cAdd l x = min l (cCost x) := by
  have h1 : cCost l = l := by unfold cCost; omega
  unfold cAdd
  rw [h1]
theorem cAdd_min {l x : Int} {s : Int} (h : 0 ≤ l ∧ l ≤ 4611686018427387904) : cAdd l (cMul s x) = min l (cMul s x) := by
  rw [cAdd_sum' h]
  congr 1
  unfold cMul
  have h1 := cCost_range s
  have h2 := cCost_range x
  generalize cCost s = a at *
  generalize cCost x = b at *
  unfold cCost
  omega
set_option maxHeartbeats 4000000 in
set_option maxRecDepth 10000 in
theorem rforward_int (w : World) (AW : Option Addr) (nW cW : Nat) (Ws : List Int) (AE : Option Addr) (nE cE : Nat) (ee : List (List EdgeT)) (hW : RdI w AW nW cW Ws) (hE : RdEE w AE nE cE ee)
    (A : Option Addr) (n c : Nat) (V : List (List Int)) (hV : RdR intC 0 w 1 A n c V) (hfit : fitsV Ws ee (V.map List.length) = 0) :
    Calls Try.prog 22 #[.agg #[.slice AW nW cW, .slice AE nE cE], .slice A n c] w (RetGrid costC 0 22 3 1 (fwdAll 0 upI (set2 (initR Ws (4611686018427387904 : Int)) 0 0 0) 0 ee V) w) := by
  obtain ⟨FIN, hFIN⟩ : ∃ F, fwdAll 0 upI (set2 (initR Ws (4611686018427387904 : Int)) 0 0 0) 0 ee V = F := ⟨_, rfl⟩
  rw [hFIN]
  obtain ⟨W0, hW0, hS, hz, hc0, hc1⟩ := boxT w AW nW cW AE nE cE
  obtain ⟨hshape, hlens⟩ := fits_zero hfit
  have hLay := layered_of_shape hshape
  have hnW : Ws.length = nW := hW.len
  have hnE : ee.length = nE := hE.len
  have hnV : V.length = n := hV.len
  have hlenV : V.length = ee.length := by have := congrArg List.length hlens; simpa using this
  have HFIN := hide hFIN
  clear hFIN
  have h1 := hW.below hS
  have h2 := hE.below hS
  have h3 := hV.below hS
  have hl1 := hLay.len
  have hl2 := hLay.few
  have HW := hide hW0
  have HC0 := hide hc0
  have HC1 := hide hc1
  have HZ := hide hz
  have HLay := hide hLay
  have HN := hide (And.intro hnW (And.intro hnE (And.intro hnV hlenV)))
  have hsz : nW = nE + 1 ∧ n = nE ∧ nE ≤ 64 := by omega
  have hLENS0 : ∀ i, i < nE → (V.getD i []).length = (ee.getD i []).length := fun i hi => by
    have h8 := congrArg (fun l : List Nat => l.getD i 0) hlens
    simpa [List.getD_eq_getElem?_getD, show i < V.length by omega, show i < ee.length by omega] using h8
  have HLENS := hide hLENS0
  obtain ⟨i1, hi1, hz1, hz2, hz3⟩ := info_parts Try.infoRowint
  obtain ⟨i0, hy0, hy1, hy2, hy3⟩ := info_parts Try.infoInt
  clear hLENS0
  clear hW0 hc0 hc1 hz hLay hshape hlens hnW hnE hnV hlenV hl1 hl2 hW hE hV
  obtain ⟨hn1, hn2, hn3⟩ := hsz
  have HSZ := hide (And.intro hn1 (And.intro hn2 hn3))
  have hnW0 : 0 < nW := by omega
  have hr0W := hnW0
  have hr0i : ((0 : Nat) : Int) < (nW : Int) := by omega
  have hnW1 : nW ≤ 65 := by omega
  have hnE1 : nE ≤ 64 := hn3
  clear hn1 hn2 hn3
  go_enter Try.func22, Try.ntmps22
  go_upto_region 1 with (fail)
  rw [← HW.out]
  have hcb0 := HC0.out
  go_wp2_with (at_make; refine wpList_make_row _ rfl _ _ _ 22 rfl i1 _ 1 24 Try.underlying26 hi1 hz1 hz2 hz3 _ _ _ _ nW rfl rfl rfl rfl (by omega) (by unfold maxLen; omega) ?_; intro w1 hown1 hb1)
  clear hcb0
  rw [madeCells_one (show (Value.slice none 0 0).cells = #[Value.slice none 0 0] from rfl)] at hown1
  have hgr := GridR.made costC 0 W0 W0.heap.size 22 3 1 nW hown1
  clear hown1
  go_loopw [6, 7] (fun iv _ wr => ∃ (i : Nat) (vs : List Value), i ≤ nW ∧ iv = .int .i64 (i : Int) ∧ GridR costC 0 wr W0.heap.size 22 3 1 (some ⟨W0.heap.size, 0, none⟩) nW nW vs (rowsAt Ws (4611686018427387904 : Int) i 0) ∧ Below W0.heap.size W0 wr) (fun iv _ _ => nW - (intOf iv).toNat)
  case atStart => exact ⟨0, _, Nat.zero_le _, rfl, by rw [rowsAt_zero, HN.out.1]; exact hgr, hb1⟩
  case round =>
    clear hgr hb1
    obtain ⟨i, vs, hi, rfl, hG, hS1⟩ := hrel
    have hcb0 := (hS1.cell (p := ⟨w.heap.size, 0, none⟩) HZ.out).trans HC0.out
    by_cases hlt : i < nW
    · obtain ⟨b, off, rfl, hb, hcell0⟩ := h1.at hlt
      have hcell := (hS1.cell (p := ⟨b, off + i, none⟩) hb).trans hcell0
      have hil : i < Ws.length := by rw [HN.out.1]; exact hlt
      obtain ⟨hp1, hp2⟩ := HLay.out.wide i hil
      obtain ⟨q, hq⟩ : ∃ q : Nat, Ws.getD i 0 = (q : Int) := ⟨(Ws.getD i 0).toNat, by omega⟩
      have HQ := hide hq
      have hqm : q ≤ 65536 := by omega
      rw [hq] at hcell hcell0
      have HCW := hide hcell0
      clear hq hp1 hp2 hcell0
      obtain ⟨rows, g1, g2, g3, g4⟩ := hG.ex
      have hslot := g1.slot hlt
      have hfree := g1.slotFree i
      have HSL := hide (And.intro hslot hfree)
      have HLT := hide (World.block_lt_of_cell? wr _ hslot)
      clear g1 g2 g3 g4 hslot hfree
      obtain ⟨wo, rfl⟩ : ∃ wo : World, wo = wr := ⟨_, rfl⟩
      go_wp2_with (at_make; refine wpList_make_row _ rfl _ _ _ 3 rfl i0 _ 1 8 Try.underlying22 hy0 hy1 hy2 hy3 _ _ _ _ q rfl rfl rfl rfl (by omega) (by unfold maxLen; omega) ?_; intro w1 hown1 hb1; have hcs := (hb1.cell (p := ⟨W0.heap.size, i, none⟩) HLT.out).trans HSL.out.1; have hcf := (hb1.frozen (p := ⟨W0.heap.size, i, none⟩) HLT.out).trans HSL.out.2)
      clear hcs hcf
      rw [madeCells_one (show (Value.int .i64 0).cells = #[Value.int .i64 0] from rfl)] at hown1
      have hGp := hG.putNew hlt hS1.size (l := List.replicate q (0 : Int)) (by simp) hown1 hb1 (fun j k v hj hk h9 w9 => h9) (fun k hk w9 => by
        rw [List.length_replicate] at hk
        simp only [List.getD_eq_getElem?_getD, List.getElem?_replicate, if_pos hk, Option.getD_some]
        exact ⟨rfl, by decide, by decide⟩)
      have hBp := (hS1.trans (hb1.mono hS1.size)).setCell (p := ⟨W0.heap.size, i, none⟩) (Nat.le_refl _) (.slice (some ⟨wo.heap.size, 0, none⟩) q q)
      obtain ⟨vs', hvs'⟩ : ∃ v9, v9 = vs.set i (.slice (some ⟨wo.heap.size, 0, none⟩) q q) := ⟨_, rfl⟩
      rw [← hvs'] at hGp
      clear hvs' hown1 hb1 hG hcell hcb0
      go_loopw [7] (fun kv wr => ∃ k : Nat, k ≤ q ∧ kv = .int .i64 (k : Int) ∧ GridR costC 0 wr W0.heap.size 22 3 1 (some ⟨W0.heap.size, 0, none⟩) nW nW vs' ((rowsAt Ws (4611686018427387904 : Int) i 0).set i (List.replicate k (4611686018427387904 : Int) ++ List.replicate (q - k) 0)) ∧ Below W0.heap.size W0 wr) (fun kv _ => q - (intOf kv).toNat)
      case atStart => exact ⟨0, Nat.zero_le _, rfl, by simpa using hGp, hBp⟩
      case round =>
        clear hGp hBp
        obtain ⟨k, hk, rfl, hG, hS2⟩ := hrel
        have hcb2 := (hS2.cell (p := ⟨w.heap.size, 0, none⟩) HZ.out).trans HC0.out
        have hcw2 := (hS2.cell (p := ⟨b, off + i, none⟩) hb).trans HCW.out
        by_cases hltk : k < q
        · have hrw : ((rowsAt Ws (4611686018427387904 : Int) i 0).set i (List.replicate k (4611686018427387904 : Int) ++ List.replicate (q - k) 0)).getD i [] = List.replicate k (4611686018427387904 : Int) ++ List.replicate (q - k) 0 := gset_self _ _ _ (by rw [rowsAt_len]; exact hil)
          have hlr : (((rowsAt Ws (4611686018427387904 : Int) i 0).set i (List.replicate k (4611686018427387904 : Int) ++ List.replicate (q - k) 0)).getD i []).length = q := by rw [hrw]; simp; omega
          obtain ⟨b9, m9, e9, hv9, hsl9, hba9, hbb9, _, _, hlm9⟩ := hG.row hlt (by omega)
          obtain ⟨⟨x9, hx9, hr9⟩, hf9⟩ := hG.cell hlt hv9 (k := k) (by omega)
          have hGs := hG.store hlt hv9 (k := k) (by omega) (x := (4611686018427387904 : Int)) (u := .int .i64 4611686018427387904) ⟨rfl, by decide, by decide⟩
          have hsame : set2 ((rowsAt Ws (4611686018427387904 : Int) i 0).set i (List.replicate k (4611686018427387904 : Int) ++ List.replicate (q - k) 0)) i k (4611686018427387904 : Int) = (rowsAt Ws (4611686018427387904 : Int) i 0).set i (List.replicate (k + 1) (4611686018427387904 : Int) ++ List.replicate (q - (k + 1)) 0) := by
            unfold set2
            rw [hrw, replicate_more _ _ hltk, List.set_set]
          rw [hsame] at hGs
          have HGs := hide hGs
          have hm9 : (k : Int) < (m9 : Int) := by omega
          clear hrw hlr hGs hsame hr9 hv9 hG
          go_wp2
          go_roundw
          case rel => exact ⟨k + 1, by omega, by go_num, HGs.out, hS2.setCell hba9 _⟩
          case measure => simp [intOf]; omega
        · obtain rfl : k = q := by omega
          have HR : Hid ((rowsAt Ws (4611686018427387904 : Int) i 0).set i (List.replicate k (4611686018427387904 : Int) ++ List.replicate (k - k) 0) = rowsAt Ws (4611686018427387904 : Int) (i + 1) 0) := by
            have := rowsAt_set (W := Ws) (z := (4611686018427387904 : Int)) hil
            rw [HQ.out] at this
            rw [Hid, Nat.sub_self, List.replicate_zero, List.append_nil]
            exact this
          go_wp2
          go_roundw
          case rel => exact ⟨i + 1, vs', by omega, by go_num, by rw [← HR.out]; exact hG, hS2⟩
          case measure => simp [intOf]; omega
    · have hiN : i = nW := by omega
      have HR : Hid (rowsAt Ws (4611686018427387904 : Int) i 0 = initR Ws (4611686018427387904 : Int)) := by
        have := rowsAt_end Ws (4611686018427387904 : Int)
        rw [HN.out.1] at this
        rw [hiN]
        exact this
      rw [HR.out] at hG
      have hfit0 : RowsFit Ws (initR Ws (4611686018427387904 : Int)) := RowsFit.init _ fun i hi => (HLay.out.wide i hi).1
      have hl0 : 0 < ((initR Ws (4611686018427387904 : Int)).getD 0 []).length := by
        have h8 := hfit0.row 0 (by rw [HN.out.1]; exact hr0W)
        have h9 := (HLay.out.wide 0 (by rw [HN.out.1]; exact hr0W)).1
        omega
      obtain ⟨b0, m0, e0, hv0, hsl0, hb0a, hb0b, hme, hem, hlm⟩ := hG.row hr0W hl0
      obtain ⟨⟨x0, hx0, hr0⟩, hf0⟩ := hG.cell hr0W hv0 hl0
      have hGs := hG.store hr0W hv0 hl0 (x := 0) (u := .int .i64 0) ⟨rfl, by decide, by decide⟩
      have hBs := hS1.setCell (p := ⟨b0, 0, none⟩) hb0a (.int .i64 0)
      have hfit1 := hfit0.set2 0 0 (0 : Int)
      have HF1 := hide hfit1
      have hm0 : (0 : Int) < (m0 : Int) := by omega
      have hcb1 := (hS1.cell (p := ⟨w.heap.size, 1, none⟩) HZ.out).trans HC1.out
      have hcb2 := (hBs.cell (p := ⟨w.heap.size, 1, none⟩) HZ.out).trans HC1.out
      have HGS := hide (And.intro hGs hBs)
      clear hGs hBs hfit1 hfit0 hl0 hv0 hr0 hme hem hlm hG HR hlt
      go_wp2_with fail
      clear hcb0 hcb1 hcb2 hx0 hf0 hsl0 hm0 hr0i
      go_loopw [8] (fun iv wr => ∃ (i : Nat) (R : List (List Int)), i ≤ nE ∧ iv = .int .i64 (i : Int) ∧ GridR costC 0 wr W0.heap.size 22 3 1 (some ⟨W0.heap.size, 0, none⟩) nW nW vs R ∧ RowsFit Ws R ∧ fwdAll 0 upI R i (ee.drop i) (V.drop i) = FIN ∧ Below W0.heap.size W0 wr) (fun iv _ => nE - (intOf iv).toNat)
      case atStart => exact ⟨0, _, Nat.zero_le _, rfl, HGS.out.1, HF1.out, HFIN.out, HGS.out.2⟩
      case round =>
      clear HF1 HFIN HGS hr0W hb0a hb0b hS1 hi hiN
      obtain ⟨i, R, hi, rfl, hG, hfit1, hex, hS1⟩ := hrel
      have HX := hide hex
      have HFIT := hide hfit1
      have hcb1 := (hS1.cell (p := ⟨w.heap.size, 1, none⟩) HZ.out).trans HC1.out
      clear hex hfit1
      by_cases hlt : i < nE
      ·
        obtain ⟨b, off, rfl, hb, hcells⟩ := h2.cells (by omega)
        obtain ⟨Aj, nj, cj, hcellE0, hrd⟩ := hcells i hlt
        have hnj63 := hrd.le63
        have HL := hide hrd.len
        obtain ⟨bV, oV, Ai, mi, ei, rfl, hbV, hcellV, hrdV⟩ := h3.at (show i < n by have := HSZ.out; omega)
        have HLV := hide hrdV.len
        have hmn : mi = nj := by
          have h8 := HLENS.out i hlt
          have h7 := hrdV.len
          have h6 := hrd.len
          omega
        obtain rfl : nj = mi := hmn.symm
        have hst := fwdAll_step (d := 0) (up := upI) (R := R) (ee := ee) (vv := V) (i := i) (by have := HN.out; omega) (by have := HN.out; have := HSZ.out; omega)
        rw [HX.out] at hst
        have HST := hide hst.symm
        have HOK := hide (fun j (hj : j < (ee.getD i []).length) => HLay.out.ok i j (by have := HN.out; omega) hj)
        clear hst hcells HX hmn
        generalize ee.getD i [] = es at *
        generalize V.getD i [] = xs at *
        have HCV := hide hcellV
        have HCE := hide hcellE0
        obtain ⟨wo, rfl⟩ : ∃ wo : World, wo = wr := ⟨_, rfl⟩
        clear hcellV hcellE0
        have hiE : (i : Int) < (nE : Int) := by omega
        go_wp2_with fail
        clear hcb1
        go_loopw [9, 10] (fun jv _ wr => ∃ (j : Nat) (R : List (List Int)), j ≤ nj ∧ jv = .int .i64 (j : Int) ∧ GridR costC 0 wr W0.heap.size 22 3 1 (some ⟨W0.heap.size, 0, none⟩) nW nW vs R ∧ RowsFit Ws R ∧ fwdAll 0 upI (sec (fwd1 0 upI i) R (es.drop j) (xs.drop j)) (i + 1) (ee.drop (i + 1)) (V.drop (i + 1)) = FIN ∧ Below W0.heap.size W0 wr) (fun jv _ _ => nj - (intOf jv).toNat)
        case atStart => exact ⟨0, R, Nat.zero_le _, rfl, hG, HFIT.out, HST.out, hS1⟩
        case round =>
          clear hS1 hG HFIT HST
          obtain ⟨j, R, hj, rfl, hG, hfit2, hex2, hS2⟩ := hrel
          have HX2 := hide hex2
          have HFIT := hide hfit2
          have hcb1 := (hS2.cell (p := ⟨w.heap.size, 1, none⟩) HZ.out).trans HC1.out
          have hcell := (hS2.cell (p := ⟨b, off + i, none⟩) hb).trans HCE.out
          clear hex2 hfit2
          by_cases hltj : j < nj
          · obtain ⟨bE, oE, rfl, hbE, hcE⟩ := (hrd.below hS2).cells (by omega)
            obtain ⟨hc0, hc1, hc2⟩ := hcE j hltj
            have hok := HOK.out j (by rw [HL.out]; exact hltj)
            have hst2 := sec_step (one := fwd1 0 upI i) (R := R) (es := es) (vs := xs) (j := j) (0, 0, 0) 0 (by rw [HL.out]; exact hltj) (by rw [HLV.out]; omega)
            rw [hst2] at HX2
            obtain ⟨bi, oi, vX, rfl, hbi, hcX, hvX⟩ := hrdV.at1 hltj
            obtain ⟨rfl, hxr1, hxr2⟩ := hvX
            clear hst2 hcE
            generalize es.getD j (0, 0, 0) = ed at *
            generalize xs.getD j 0 = x at *
            obtain ⟨ef, el, et⟩ := ed
            simp only at hc0 hc1 hc2 hok
            obtain ⟨o1, o2, o3, o4⟩ := hok
            obtain ⟨fr, rfl⟩ : ∃ fr : Nat, ef = (fr : Int) := ⟨ef.toNat, by omega⟩
            obtain ⟨tt, rfl⟩ : ∃ tt : Nat, et = (tt : Int) := ⟨et.toNat, by omega⟩
            have hnw := HSZ.out.1
            have hfr := HFIT.out.row i (by rw [HN.out.1]; omega)
            have htt := HFIT.out.row (i + 1) (by rw [HN.out.1]; omega)
            have hiW : i < nW := by omega
            have hiW1 : i + 1 < nW := by omega
            have hfrl : fr < (R.getD i []).length := by omega
            have httl : tt < (R.getD (i + 1) []).length := by omega
            have HCV2 := hide ((hS2.cell (p := ⟨bV, oV + i, none⟩) hbV).trans HCV.out)
            have HCX2 := hide ((hS2.cell (p := ⟨bi, oi + j, none⟩) hbi).trans hcX)
            have HHI := hide (And.intro hiW (And.intro hiW1 (And.intro hfrl httl)))
            clear hfr htt o1 o2 o3 o4 hnw hiW hiW1 hfrl httl hcX
            go_wp2_with fail
            obtain ⟨W, hWd⟩ : ∃ W, W = wr.alloc (.cells #[.int .i64 (fr : Int), .int .i64 el, .int .i64 (tt : Int)] 73) := ⟨_, rfl⟩
            have hB2 : Below wr.heap.size wr W := by rw [hWd]; exact below_alloc wr _
            have KE := hide (stays (W := W) (b := wr.heap.size) (o := 0) (v := .int .i64 (fr : Int)) (by rw [hWd, cell_of_row _ _ _ _ _ _ (heap_alloc_new wr _)]; rfl))
            have KT := hide (stays (W := W) (b := wr.heap.size) (o := 2) (v := .int .i64 (tt : Int)) (by rw [hWd, cell_of_row _ _ _ _ _ _ (heap_alloc_new wr _)]; rfl))
            rw [← hWd]
            obtain ⟨hiW, hiW1, hfrl, httl⟩ := HHI.out
            have hGW := hG.below hB2
            obtain ⟨b1, m1, e1, hv1, hsl1, hb1a, hb1b, _, _, hlm1⟩ := hGW.row hiW1 (by omega)
            obtain ⟨b0, m0, e0, hv0, hsl0, hb0a, hb0b, _, _, hlm0⟩ := hGW.row hiW (by omega)
            obtain ⟨⟨vT, hxT, hrT⟩, hfT⟩ := hGW.cell hiW1 hv1 httl
            obtain ⟨⟨vF, hxF, hrF⟩, hfF⟩ := hGW.cell hiW hv0 hfrl
            obtain ⟨rfl, hl1, hl2⟩ := hrT
            obtain ⟨rfl, hs1, hs2⟩ := hrF
            have HLR := hide (And.intro hl1 hl2)
            have K1 := hide (stays hsl1)
            have K0 := hide (stays hsl0)
            have KLT := hide (stays hxT)
            have KLF := hide (stays hxF)
            have KF := hide (staysF hxT hfT)
            have KV := hide (stays (W := W) ((hB2.cell (p := ⟨bV, oV + i, none⟩) (Nat.lt_of_lt_of_le hbV hS2.size)).trans HCV2.out))
            have KX := hide (stays (W := W) ((hB2.cell (p := ⟨bi, oi + j, none⟩) (Nat.lt_of_lt_of_le hbi hS2.size)).trans HCX2.out))
            have HUP : Hid (fwd1 0 upI i R ((fr : Int), el, (tt : Int)) x = set2 R (i + 1) tt (upI (at2 0 R (i + 1) tt) (at2 0 R i fr) x)) := by
              simp [Hid, fwd1]
            have HS2 := hide (hS2.trans (hB2.mono hS2.size))
            have q1 : (fr : Int) < (m0 : Int) := by omega
            have q2 : (tt : Int) < (m1 : Int) := by omega
            have q3 : (i : Int) + 1 < (nW : Int) := by omega
            have q4 : (i : Int) < (nW : Int) := by omega
            have q5 : (j : Int) < (nj : Int) := by omega
            have q6 : (i : Int) < (n : Int) := by have := HSZ.out; omega
            have q7 : ((i : Int) + 1).toNat = i + 1 := by omega
            have q8 : (0 : Int) ≤ (i : Int) + 1 := by omega
            have HRG := hide (And.intro hv1 httl)
            clear hsl1 hsl0 hxT hfT hxF hfF hB2 hS2 hG hlm1 hlm0 hc0 hc1 hc2 hfrl httl hv0 hv1 hl1 hl2 hs1 hs2 hcb1 hcell
            generalize hlv : at2 0 R (i + 1) tt = l at *
            generalize hsv : at2 0 R i fr = s at *
            have HE9 := hide (And.intro hlv hsv)
            clear hlv hsv
            refine wp_region_tab 33 110 [IsV (.slice (some ⟨W0.heap.size, 0, none⟩) nW nW), IsV (.int .i64 (i : Int)), IsV (.int .i64 ((i : Int) + 1)), IsV (.pointer (some ⟨W0.heap.size, i + 1, none⟩)), IsV (.slice (some ⟨b1, 0, none⟩) m1 e1), IsV (.pointer (some ⟨wr.heap.size, 2, none⟩)), IsV (.int .i64 (tt : Int)), IsV (.slice (some ⟨W0.heap.size, 0, none⟩) nW nW), IsV (.int .i64 (i : Int)), IsV (.int .i64 ((i : Int) + 1)), IsV (.pointer (some ⟨W0.heap.size, i + 1, none⟩)), IsV (.slice (some ⟨b1, 0, none⟩) m1 e1), IsV (.pointer (some ⟨wr.heap.size, 2, none⟩)), IsV (.int .i64 (tt : Int)), IsV (.pointer (some ⟨b1, tt, none⟩)), IsV (.int .i64 l), IsV (.slice (some ⟨W0.heap.size, 0, none⟩) nW nW), IsV (.int .i64 (i : Int)), IsV (.pointer (some ⟨W0.heap.size, i, none⟩)), IsV (.slice (some ⟨b0, 0, none⟩) m0 e0), IsV (.pointer (some ⟨wr.heap.size, 0, none⟩)), IsV (.int .i64 (fr : Int)), IsV (.pointer (some ⟨b0, fr, none⟩)), IsV (.int .i64 s), IsV (.slice (some ⟨bV, oV, none⟩) n c), IsV (.int .i64 (i : Int)), IsV (.pointer (some ⟨bV, oV + i, none⟩)), IsV (.slice (some ⟨bi, oi, none⟩) nj ei), IsV (.int .i64 (j : Int)), IsV (.pointer (some ⟨bi, oi + j, none⟩)), IsV (.int .i64 x), IsV (.int .i64 (cMul s x)), IsV (.int .i64 (cAdd l (cMul s x)))] (From W) (by kernel_rfl) (by kernel_rfl) (by kernel_rfl) rfl From.lasts (From.drew (From.refl W)) ?_
            simp only [List.take_succ_cons, List.drop_succ_cons, List.take_zero, List.drop_zero]
            refine Tab.cons IsV.lasting (fun wx hx hd => ?_) (fun v75 => ?_)
            · skip
              clear hd
              intro KK hK
              go_simp
              exact hK.out _ _ rfl (Below.refl _ _)
            simp only [Act.put, List.setIfInBounds_toArray, List.set_cons_zero, List.set_cons_succ]
            refine Tab.cons IsV.lasting (fun wx hx hd => ?_) (fun v76 => ?_)
            · skip
              clear hd
              intro KK hK
              go_simp
              exact hK.out _ _ rfl (Below.refl _ _)
            simp only [Act.put, List.setIfInBounds_toArray, List.set_cons_zero, List.set_cons_succ]
            refine Tab.cons IsV.lasting (fun wx hx hd => ?_) (fun v77 => ?_)
            · skip
              have e76 : v76 = _ := (hd _ (.head _) (by kernel_rfl) : (IsV (.int .i64 (i : Int))) v76 wx)
              subst e76
              clear hd
              intro KK hK
              go_simp
              rw [show IntKind.i64.wrap ((i : Int) + 1) = ((i : Int) + 1) from IntWalk.i64_in _ (by omega)]
              exact hK.out _ _ rfl (Below.refl _ _)
            simp only [Act.put, List.setIfInBounds_toArray, List.set_cons_zero, List.set_cons_succ]
            refine Tab.cons IsV.lasting (fun wx hx hd => ?_) (fun v78 => ?_)
            · skip
              have e75 : v75 = _ := (hd _ (.tail _ (.tail _ (.head _))) (by kernel_rfl) : (IsV (.slice (some ⟨W0.heap.size, 0, none⟩) nW nW)) v75 wx)
              subst e75
              have e77 : v77 = _ := (hd _ (.head _) (by kernel_rfl) : (IsV (.int .i64 ((i : Int) + 1))) v77 wx)
              subst e77
              clear hd
              intro KK hK
              go_simp
              exact hK.out _ _ rfl (Below.refl _ _)
            simp only [Act.put, List.setIfInBounds_toArray, List.set_cons_zero, List.set_cons_succ]
            refine Tab.cons IsV.lasting (fun wx hx hd => ?_) (fun v79 => ?_)
            · skip
              have e78 : v78 = _ := (hd _ (.head _) (by kernel_rfl) : (IsV (.pointer (some ⟨W0.heap.size, i + 1, none⟩))) v78 wx)
              subst e78
              clear hd
              intro KK hK
              have hcell0 := K1.out _ hx
              go_simp
              exact hK.out _ _ rfl (Below.refl _ _)
            simp only [Act.put, List.setIfInBounds_toArray, List.set_cons_zero, List.set_cons_succ]
            refine Tab.cons IsV.lasting (fun wx hx hd => ?_) (fun v80 => ?_)
            · skip
              clear hd
              intro KK hK
              go_simp
              exact hK.out _ _ rfl (Below.refl _ _)
            simp only [Act.put, List.setIfInBounds_toArray, List.set_cons_zero, List.set_cons_succ]
            refine Tab.cons IsV.lasting (fun wx hx hd => ?_) (fun v81 => ?_)
            · skip
              have e80 : v80 = _ := (hd _ (.head _) (by kernel_rfl) : (IsV (.pointer (some ⟨wr.heap.size, 2, none⟩))) v80 wx)
              subst e80
              clear hd
              intro KK hK
              have hcell0 := KT.out _ hx
              go_simp
              exact hK.out _ _ rfl (Below.refl _ _)
            simp only [Act.put, List.setIfInBounds_toArray, List.set_cons_zero, List.set_cons_succ]
            refine Tab.cons IsV.lasting (fun wx hx hd => ?_) (fun v82 => ?_)
            · skip
              clear hd
              intro KK hK
              go_simp
              exact hK.out _ _ rfl (Below.refl _ _)
            simp only [Act.put, List.setIfInBounds_toArray, List.set_cons_zero, List.set_cons_succ]
            refine Tab.cons IsV.lasting (fun wx hx hd => ?_) (fun v83 => ?_)
            · skip
              clear hd
              intro KK hK
              go_simp
              exact hK.out _ _ rfl (Below.refl _ _)
            simp only [Act.put, List.setIfInBounds_toArray, List.set_cons_zero, List.set_cons_succ]
            refine Tab.cons IsV.lasting (fun wx hx hd => ?_) (fun v84 => ?_)
            · skip
              have e83 : v83 = _ := (hd _ (.head _) (by kernel_rfl) : (IsV (.int .i64 (i : Int))) v83 wx)
              subst e83
              clear hd
              intro KK hK
              go_simp
              rw [show IntKind.i64.wrap ((i : Int) + 1) = ((i : Int) + 1) from IntWalk.i64_in _ (by omega)]
              exact hK.out _ _ rfl (Below.refl _ _)
            simp only [Act.put, List.setIfInBounds_toArray, List.set_cons_zero, List.set_cons_succ]
            refine Tab.cons IsV.lasting (fun wx hx hd => ?_) (fun v85 => ?_)
            · skip
              have e82 : v82 = _ := (hd _ (.tail _ (.tail _ (.head _))) (by kernel_rfl) : (IsV (.slice (some ⟨W0.heap.size, 0, none⟩) nW nW)) v82 wx)
              subst e82
              have e84 : v84 = _ := (hd _ (.head _) (by kernel_rfl) : (IsV (.int .i64 ((i : Int) + 1))) v84 wx)
              subst e84
              clear hd
              intro KK hK
              go_simp
              exact hK.out _ _ rfl (Below.refl _ _)
            simp only [Act.put, List.setIfInBounds_toArray, List.set_cons_zero, List.set_cons_succ]
            refine Tab.cons IsV.lasting (fun wx hx hd => ?_) (fun v86 => ?_)
            · skip
              have e85 : v85 = _ := (hd _ (.head _) (by kernel_rfl) : (IsV (.pointer (some ⟨W0.heap.size, i + 1, none⟩))) v85 wx)
              subst e85
              clear hd
              intro KK hK
              have hcell0 := K1.out _ hx
              go_simp
              exact hK.out _ _ rfl (Below.refl _ _)
            simp only [Act.put, List.setIfInBounds_toArray, List.set_cons_zero, List.set_cons_succ]
            refine Tab.cons IsV.lasting (fun wx hx hd => ?_) (fun v87 => ?_)
            · skip
              clear hd
              intro KK hK
              go_simp
              exact hK.out _ _ rfl (Below.refl _ _)
            simp only [Act.put, List.setIfInBounds_toArray, List.set_cons_zero, List.set_cons_succ]
            refine Tab.cons IsV.lasting (fun wx hx hd => ?_) (fun v88 => ?_)
            · skip
              have e87 : v87 = _ := (hd _ (.head _) (by kernel_rfl) : (IsV (.pointer (some ⟨wr.heap.size, 2, none⟩))) v87 wx)
              subst e87
              clear hd
              intro KK hK
              have hcell0 := KT.out _ hx
              go_simp
              exact hK.out _ _ rfl (Below.refl _ _)
            simp only [Act.put, List.setIfInBounds_toArray, List.set_cons_zero, List.set_cons_succ]
            refine Tab.cons IsV.lasting (fun wx hx hd => ?_) (fun v89 => ?_)
            · skip
              have e86 : v86 = _ := (hd _ (.tail _ (.tail _ (.head _))) (by kernel_rfl) : (IsV (.slice (some ⟨b1, 0, none⟩) m1 e1)) v86 wx)
              subst e86
              have e88 : v88 = _ := (hd _ (.head _) (by kernel_rfl) : (IsV (.int .i64 (tt : Int))) v88 wx)
              subst e88
              clear hd
              intro KK hK
              go_simp
              exact hK.out _ _ rfl (Below.refl _ _)
            simp only [Act.put, List.setIfInBounds_toArray, List.set_cons_zero, List.set_cons_succ]
            refine Tab.cons IsV.lasting (fun wx hx hd => ?_) (fun v90 => ?_)
            · skip
              have e89 : v89 = _ := (hd _ (.head _) (by kernel_rfl) : (IsV (.pointer (some ⟨b1, tt, none⟩))) v89 wx)
              subst e89
              clear hd
              intro KK hK
              have hcell0 := KLT.out _ hx
              go_simp
              exact hK.out _ _ rfl (Below.refl _ _)
            simp only [Act.put, List.setIfInBounds_toArray, List.set_cons_zero, List.set_cons_succ]
            refine Tab.cons IsV.lasting (fun wx hx hd => ?_) (fun v91 => ?_)
            · skip
              clear hd
              intro KK hK
              go_simp
              exact hK.out _ _ rfl (Below.refl _ _)
            simp only [Act.put, List.setIfInBounds_toArray, List.set_cons_zero, List.set_cons_succ]
            refine Tab.cons IsV.lasting (fun wx hx hd => ?_) (fun v92 => ?_)
            · skip
              clear hd
              intro KK hK
              go_simp
              exact hK.out _ _ rfl (Below.refl _ _)
            simp only [Act.put, List.setIfInBounds_toArray, List.set_cons_zero, List.set_cons_succ]
            refine Tab.cons IsV.lasting (fun wx hx hd => ?_) (fun v93 => ?_)
            · skip
              have e91 : v91 = _ := (hd _ (.tail _ (.head _)) (by kernel_rfl) : (IsV (.slice (some ⟨W0.heap.size, 0, none⟩) nW nW)) v91 wx)
              subst e91
              have e92 : v92 = _ := (hd _ (.head _) (by kernel_rfl) : (IsV (.int .i64 (i : Int))) v92 wx)
              subst e92
              clear hd
              intro KK hK
              go_simp
              exact hK.out _ _ rfl (Below.refl _ _)
            simp only [Act.put, List.setIfInBounds_toArray, List.set_cons_zero, List.set_cons_succ]
            refine Tab.cons IsV.lasting (fun wx hx hd => ?_) (fun v94 => ?_)
            · skip
              have e93 : v93 = _ := (hd _ (.head _) (by kernel_rfl) : (IsV (.pointer (some ⟨W0.heap.size, i, none⟩))) v93 wx)
              subst e93
              clear hd
              intro KK hK
              have hcell0 := K0.out _ hx
              go_simp
              exact hK.out _ _ rfl (Below.refl _ _)
            simp only [Act.put, List.setIfInBounds_toArray, List.set_cons_zero, List.set_cons_succ]
            refine Tab.cons IsV.lasting (fun wx hx hd => ?_) (fun v95 => ?_)
            · skip
              clear hd
              intro KK hK
              go_simp
              exact hK.out _ _ rfl (Below.refl _ _)
            simp only [Act.put, List.setIfInBounds_toArray, List.set_cons_zero, List.set_cons_succ]
            refine Tab.cons IsV.lasting (fun wx hx hd => ?_) (fun v96 => ?_)
            · skip
              have e95 : v95 = _ := (hd _ (.head _) (by kernel_rfl) : (IsV (.pointer (some ⟨wr.heap.size, 0, none⟩))) v95 wx)
              subst e95
              clear hd
              intro KK hK
              have hcell0 := KE.out _ hx
              go_simp
              exact hK.out _ _ rfl (Below.refl _ _)
            simp only [Act.put, List.setIfInBounds_toArray, List.set_cons_zero, List.set_cons_succ]
            refine Tab.cons IsV.lasting (fun wx hx hd => ?_) (fun v97 => ?_)
            · skip
              have e94 : v94 = _ := (hd _ (.tail _ (.tail _ (.head _))) (by kernel_rfl) : (IsV (.slice (some ⟨b0, 0, none⟩) m0 e0)) v94 wx)
              subst e94
              have e96 : v96 = _ := (hd _ (.head _) (by kernel_rfl) : (IsV (.int .i64 (fr : Int))) v96 wx)
              subst e96
              clear hd
              intro KK hK
              go_simp
              exact hK.out _ _ rfl (Below.refl _ _)
            simp only [Act.put, List.setIfInBounds_toArray, List.set_cons_zero, List.set_cons_succ]
            refine Tab.cons IsV.lasting (fun wx hx hd => ?_) (fun v98 => ?_)
            · skip
              have e97 : v97 = _ := (hd _ (.head _) (by kernel_rfl) : (IsV (.pointer (some ⟨b0, fr, none⟩))) v97 wx)
              subst e97
              clear hd
              intro KK hK
              have hcell0 := KLF.out _ hx
              go_simp
              exact hK.out _ _ rfl (Below.refl _ _)
            simp only [Act.put, List.setIfInBounds_toArray, List.set_cons_zero, List.set_cons_succ]
            refine Tab.cons IsV.lasting (fun wx hx hd => ?_) (fun v99 => ?_)
            · skip
              clear hd
              intro KK hK
              go_simp
              exact hK.out _ _ rfl (Below.refl _ _)
            simp only [Act.put, List.setIfInBounds_toArray, List.set_cons_zero, List.set_cons_succ]
            refine Tab.cons IsV.lasting (fun wx hx hd => ?_) (fun v100 => ?_)
            · skip
              clear hd
              intro KK hK
              go_simp
              exact hK.out _ _ rfl (Below.refl _ _)
            simp only [Act.put, List.setIfInBounds_toArray, List.set_cons_zero, List.set_cons_succ]
            refine Tab.cons IsV.lasting (fun wx hx hd => ?_) (fun v101 => ?_)
            · skip
              have e99 : v99 = _ := (hd _ (.tail _ (.head _)) (by kernel_rfl) : (IsV (.slice (some ⟨bV, oV, none⟩) n c)) v99 wx)
              subst e99
              have e100 : v100 = _ := (hd _ (.head _) (by kernel_rfl) : (IsV (.int .i64 (i : Int))) v100 wx)
              subst e100
              clear hd
              intro KK hK
              go_simp
              exact hK.out _ _ rfl (Below.refl _ _)
            simp only [Act.put, List.setIfInBounds_toArray, List.set_cons_zero, List.set_cons_succ]
            refine Tab.cons IsV.lasting (fun wx hx hd => ?_) (fun v102 => ?_)
            · skip
              have e101 : v101 = _ := (hd _ (.head _) (by kernel_rfl) : (IsV (.pointer (some ⟨bV, oV + i, none⟩))) v101 wx)
              subst e101
              clear hd
              intro KK hK
              have hcell0 := KV.out _ hx
              go_simp
              exact hK.out _ _ rfl (Below.refl _ _)
            simp only [Act.put, List.setIfInBounds_toArray, List.set_cons_zero, List.set_cons_succ]
            refine Tab.cons IsV.lasting (fun wx hx hd => ?_) (fun v103 => ?_)
            · skip
              clear hd
              intro KK hK
              go_simp
              exact hK.out _ _ rfl (Below.refl _ _)
            simp only [Act.put, List.setIfInBounds_toArray, List.set_cons_zero, List.set_cons_succ]
            refine Tab.cons IsV.lasting (fun wx hx hd => ?_) (fun v104 => ?_)
            · skip
              have e102 : v102 = _ := (hd _ (.tail _ (.head _)) (by kernel_rfl) : (IsV (.slice (some ⟨bi, oi, none⟩) nj ei)) v102 wx)
              subst e102
              have e103 : v103 = _ := (hd _ (.head _) (by kernel_rfl) : (IsV (.int .i64 (j : Int))) v103 wx)
              subst e103
              clear hd
              intro KK hK
              go_simp
              exact hK.out _ _ rfl (Below.refl _ _)
            simp only [Act.put, List.setIfInBounds_toArray, List.set_cons_zero, List.set_cons_succ]
            refine Tab.cons IsV.lasting (fun wx hx hd => ?_) (fun v105 => ?_)
            · skip
              have e104 : v104 = _ := (hd _ (.head _) (by kernel_rfl) : (IsV (.pointer (some ⟨bi, oi + j, none⟩))) v104 wx)
              subst e104
              clear hd
              intro KK hK
              have hcell0 := KX.out _ hx
              go_simp
              exact hK.out _ _ rfl (Below.refl _ _)
            simp only [Act.put, List.setIfInBounds_toArray, List.set_cons_zero, List.set_cons_succ]
            refine Tab.cons IsV.lasting (fun wx hx hd => ?_) (fun v106 => ?_)
            · skip
              have e98 : v98 = _ := (hd _ (.tail _ (.tail _ (.tail _ (.tail _ (.tail _ (.tail _ (.tail _ (.head _)))))))) (by kernel_rfl) : (IsV (.int .i64 s)) v98 wx)
              subst e98
              have e105 : v105 = _ := (hd _ (.head _) (by kernel_rfl) : (IsV (.int .i64 x)) v105 wx)
              subst e105
              clear hd
              intro KK hK
              go_simp
              refine (rminPlus_mul _ _ _).mono ?_
              rintro e w' ⟨rfl, hb'⟩
              exact hK.out _ _ rfl hb'
            simp only [Act.put, List.setIfInBounds_toArray, List.set_cons_zero, List.set_cons_succ]
            refine Tab.cons IsV.lasting (fun wx hx hd => ?_) (fun v107 => ?_)
            · skip
              have e90 : v90 = _ := (hd _ (.tail _ (.tail _ (.tail _ (.tail _ (.tail _ (.tail _ (.tail _ (.tail _ (.tail _ (.tail _ (.tail _ (.tail _ (.tail _ (.tail _ (.tail _ (.tail _ (.head _))))))))))))))))) (by kernel_rfl) : (IsV (.int .i64 l)) v90 wx)
              subst e90
              have e106 : v106 = _ := (hd _ (.head _) (by kernel_rfl) : (IsV (.int .i64 (cMul s x))) v106 wx)
              subst e106
              clear hd
              intro KK hK
              go_simp
              exact hK.out _ _ (by unfold IsV; rw [cAdd_min HLR.out]) (Below.refl _ _)
            simp only [Act.put, List.setIfInBounds_toArray, List.set_cons_zero, List.set_cons_succ]
            refine Tab.nil fun wx hx hd => ?_
            have e79 : v79 = _ := (hd _ (.tail _ (.tail _ (.tail _ (.tail _ (.tail _ (.tail _ (.tail _ (.tail _ (.tail _ (.tail _ (.tail _ (.tail _ (.tail _ (.tail _ (.tail _ (.tail _ (.tail _ (.tail _ (.tail _ (.tail _ (.tail _ (.tail _ (.tail _ (.tail _ (.tail _ (.tail _ (.tail _ (.tail _ (.head _))))))))))))))))))))))))))))) : (IsV (.slice (some ⟨b1, 0, none⟩) m1 e1)) v79 wx)
            subst e79
            have e81 : v81 = _ := (hd _ (.tail _ (.tail _ (.tail _ (.tail _ (.tail _ (.tail _ (.tail _ (.tail _ (.tail _ (.tail _ (.tail _ (.tail _ (.tail _ (.tail _ (.tail _ (.tail _ (.tail _ (.tail _ (.tail _ (.tail _ (.tail _ (.tail _ (.tail _ (.tail _ (.tail _ (.tail _ (.head _))))))))))))))))))))))))))) : (IsV (.int .i64 (tt : Int))) v81 wx)
            subst e81
            have e107 : v107 = _ := (hd _ (.head _) : (IsV (.int .i64 (cAdd l (cMul s x)))) v107 wx)
            subst e107
            clear hd
            have hcellL := KLT.out _ hx
            have hfrL := KF.out _ hx
            have hGs := (hGW.below hx.out).store (i := (i + 1)) hiW1 HRG.out.1 (k := tt) HRG.out.2 (x := upI l s x) (u := .int .i64 (cAdd l (cMul s x))) ⟨rfl, cAdd_range _ _⟩
            have hBs : Below W0.heap.size W0 (wx.setCell ⟨b1, tt, none⟩ (.int .i64 (cAdd l (cMul s x)))) := (HS2.out.trans (hx.out.mono HS2.out.size)).setCell hb1a _
            have hFs := HFIT.out.set2 (i + 1) tt (upI l s x)
            have hX3 := HX2.out
            rw [HUP.out] at hX3
            have HX3 := hide hX3
            have HFs := hide hFs
            clear q3 q4 q6 q7 q8 hX3 hFs
            go_wp2
            go_roundw
            case rel => exact ⟨j + 1, _, by omega, by go_num, hGs, HFs.out, HX3.out, hBs⟩
            case measure => simp [intOf]; omega
          · obtain rfl : j = nj := by omega
            have hX3 := HX2.out
            rw [sec_end (by rw [HL.out]; exact Nat.le_refl _)] at hX3
            have HX3 := hide hX3
            clear hX3
            go_wp2
            go_roundw
            case rel => exact ⟨i + 1, R, by omega, by go_num, hG, HFIT.out, HX3.out, hS2⟩
            case measure => simp [intOf] <;> omega
      · obtain rfl : i = nE := by omega
        have hX3 := HX.out
        rw [fwdAll_end (by have := HN.out; omega)] at hX3
        subst hX3
        go_wp2
        go_ret
        exact ⟨_, _, _, vs, rfl, hG.lower hS.size, below_step hS1 hS⟩
end Go.Proofs.Ytjadgomakoaibaa
