/- The numbers of a layered graph as natural numbers: the walk of nats. The numbers of a layered graph brought to 0 to 8: the walks of bring and brought. -/
import Derived.Test.YtjadgomakoaibaaRowsNat
import Derived.Test.YtjadgomakoaibaaPathK
import Derived.Test.YtjadgomakoaibaaRowsInt
namespace Go.Proofs.Ytjadgomakoaibaa
open Go.RowKit

section
variable {α : Type}
/-- The rows below i are what f says, row i is l, those behind are empty. -/
def rowsBy (f : Nat → List α) (n i : Nat) (l : List α) : List (List α) := (List.range n).map fun j => if j < i then f j else if j = i then l else []
theorem rowsBy_len (f : Nat → List α) (n i : Nat) (l : List α) : (rowsBy f n i l).length = n := by simp [rowsBy]
theorem rowsBy_row {f : Nat → List α} {n i j : Nat} {l : List α} (h : j < n) : (rowsBy f n i l).getD j [] = if j < i then f j else if j = i then l else [] := by
  simp only [rowsBy, List.getD_eq_getElem?_getD, List.getElem?_map, List.getElem?_range h, Option.map_some, Option.getD_some]
theorem rowsBy_zero (f : Nat → List α) (n : Nat) : rowsBy f n 0 [] = List.replicate n [] := by
  refine rows_ext (by simp [rowsBy_len]) fun j hj => ?_
  rw [rowsBy_len] at hj
  rw [rowsBy_row hj]
  simp [List.getD_eq_getElem?_getD, hj]
theorem rowsBy_set {f : Nat → List α} {n i : Nat} {l m : List α} (h : i < n) : (rowsBy f n i l).set i m = rowsBy f n i m := by
  refine rows_ext (by simp [rowsBy_len]) fun j hj => ?_
  rw [List.length_set, rowsBy_len] at hj
  by_cases hij : i = j
  · subst hij
    rw [gset_self _ _ _ (by rw [rowsBy_len]; exact h), rowsBy_row h, if_neg (by omega), if_pos rfl]
  · rw [gset_ne _ _ _ hij, rowsBy_row hj, rowsBy_row hj]
    by_cases h1 : j < i
    · rw [if_pos h1, if_pos h1]
    · rw [if_neg h1, if_neg h1, if_neg (fun e => hij e.symm), if_neg (fun e => hij e.symm)]
theorem rowsBy_next (f : Nat → List α) (n i : Nat) : rowsBy f n i (f i) = rowsBy f n (i + 1) [] := by
  refine rows_ext (by simp [rowsBy_len]) fun j hj => ?_
  rw [rowsBy_len] at hj
  rw [rowsBy_row hj, rowsBy_row hj]
  by_cases h1 : j < i
  · rw [if_pos h1, if_pos (by omega)]
  · by_cases h2 : j = i
    · subst h2
      rw [if_neg h1, if_pos rfl, if_pos (by omega)]
    · rw [if_neg h1, if_neg h2, if_neg (by omega)]
      split <;> rfl
theorem rowsBy_end (f : Nat → List α) (n : Nat) : rowsBy f n n [] = (List.range n).map f := by
  refine rows_ext (by simp [rowsBy_len]) fun j hj => ?_
  rw [rowsBy_len] at hj
  rw [rowsBy_row hj, if_pos hj]
  simp [List.getD_eq_getElem?_getD, hj]
theorem map_rows {β : Type} (f : β → α) (V : List (List β)) : (List.range V.length).map (fun i => (V.getD i []).map f) = V.map fun l => l.map f := by
  refine List.ext_getElem (by simp) fun j h1 h2 => ?_
  simp only [List.length_map, List.length_range] at h1
  simp [List.getD_eq_getElem?_getD, h1]
theorem take_map_set {β : Type} (f : β → α) (z : α) (b : β) {xs : List β} {m j : Nat} (hm : xs.length = m) (h : j < m) :
    ((xs.take j).map f ++ List.replicate (m - j) z).set j (f (xs.getD j b)) = (xs.take (j + 1)).map f ++ List.replicate (m - (j + 1)) z := by
  have h1 : ((xs.take j).map f).length = j := by simp; omega
  have h2 : xs.take (j + 1) = xs.take j ++ [xs.getD j b] := by
    rw [List.take_succ_eq_append_getElem (by omega), List.getD_eq_getElem?_getD, List.getElem?_eq_getElem (by omega)]; rfl
  obtain ⟨q, hq⟩ : ∃ q, m - j = q + 1 := ⟨m - j - 1, by omega⟩
  have h4 := set_mid ((xs.take j).map f) z (f (xs.getD j b)) q
  rw [h1] at h4
  rw [hq, h4, h2, show m - (j + 1) = q by omega]
  simp
end
theorem natC_set {K : Nat} {N : Nat} {v : Value} {w : World} {p : Addr} {u : Value} {A : Option Addr} {n c : Nat} (h : (natC K).rel N v w) (hp : w.cell? p = some (.slice A n c)) : (natC K).rel N v (w.setCell p u) := by
  obtain ⟨A', n', c', h1, h2, h3⟩ := h
  exact ⟨A', n', c', h1, h2.setCell hp (by intro x e; cases e), h3⟩

def natOf (z : Int) : Nat := (max 0 z).toNat
set_option maxHeartbeats 4000000 in
set_option maxRecDepth 10000 in
theorem nats_any (w : World) (A : Option Addr) (n c : Nat) (Z : List (List Int)) (hV : RdR intC 0 w 1 A n c Z) (hn : n ≤ 8796093022208) (hrow : ∀ i, i < n → (Z.getD i []).length ≤ 8796093022208) :
    Calls Try.prog 9 #[.slice A n c] w (RetGrid (natC 2) 0 44 37 1 (Z.map fun l => l.map natOf) w) := by
  have HLEN := hide hV.len
  have HRW := hide hrow
  obtain ⟨i1, hi1, hz1, hz2, hz3⟩ := info_parts Try.infoRownat
  obtain ⟨i0, hy0, hy1, hy2, hy3⟩ := info_parts Try.infoNatV
  have h63 := hV.le63
  clear hrow
  go_enter Try.func9, Try.ntmps9
  go_wp2_with (at_make; refine wpList_make_row _ rfl _ _ _ 44 rfl i1 _ 1 24 Try.underlying31 hi1 hz1 hz2 hz3 _ _ _ _ n rfl rfl rfl rfl (by omega) (by unfold maxLen; omega) ?_; intro w1 hown1 hb1)
  rw [madeCells_one (show (Value.slice none 0 0).cells = #[Value.slice none 0 0] from rfl)] at hown1
  have hgr := GridR.made (natC 2) 0 w w.heap.size 44 37 1 n hown1
  clear hown1
  go_loopw [4, 5] (fun iv _ wr => ∃ (i : Nat) (vs : List Value), i ≤ n ∧ iv = .int .i64 (i : Int) ∧ GridR (natC 2) 0 wr w.heap.size 44 37 1 (some ⟨w.heap.size, 0, none⟩) n n vs (rowsBy (fun i => (Z.getD i []).map natOf) n i []) ∧ Below w.heap.size w wr) (fun iv _ _ => n - (intOf iv).toNat)
  case atStart => exact ⟨0, _, Nat.zero_le _, rfl, by rw [rowsBy_zero]; exact hgr, hb1⟩
  case round =>
    clear hgr hb1
    obtain ⟨i, vs, hi, rfl, hG, hS1⟩ := hrel
    by_cases hlt : i < n
    · obtain ⟨bV, oV, Ai, mi, ei, rfl, hbV, hcV, hrd⟩ := hV.at hlt
      have hcell := (hS1.cell (p := ⟨bV, oV + i, none⟩) hbV).trans hcV
      have hmi63 := hrd.le63
      have HLI := hide hrd.len
      have hmi : mi ≤ 8796093022208 := by
        have h1 := HRW.out i hlt
        have h2 := hrd.len
        omega
      have HNX := hide (rowsBy_next (fun i => (Z.getD i []).map natOf) n i)
      have HCV := hide hcV
      have HIL := hide hlt
      obtain ⟨rows, g1, g2, g3, g4⟩ := hG.ex
      have hslot := g1.slot hlt
      have hfree := g1.slotFree i
      obtain ⟨sA, sn, sc, hsl⟩ : ∃ A n c, vs.getD i undef = .slice A n c := by
        rcases g1.form hlt with ⟨h9, _⟩ | ⟨b, m, d, h9, _⟩
        · exact ⟨_, _, _, h9⟩
        · exact ⟨_, _, _, h9⟩
      rw [hsl] at hslot
      have HSL := hide (And.intro hslot hfree)
      have HLT := hide (World.block_lt_of_cell? wr _ hslot)
      clear g1 g2 g3 g4 hslot hfree hsl hcV
      obtain ⟨wo, rfl⟩ : ∃ wo : World, wo = wr := ⟨_, rfl⟩
      generalize hxs : Z.getD i [] = xs at *
      have HXS := hide hxs
      clear hxs
      go_wp2_with (at_make; refine wpList_make_row _ rfl _ _ _ 37 rfl i0 _ 1 24 Try.underlying44 hy0 hy1 hy2 hy3 _ _ _ _ mi rfl rfl rfl rfl (by omega) (by unfold maxLen; omega) ?_; intro w1 hown1 hb1; have hcs := (hb1.cell (p := ⟨w.heap.size, i, none⟩) HLT.out).trans HSL.out.1; have hcf := (hb1.frozen (p := ⟨w.heap.size, i, none⟩) HLT.out).trans HSL.out.2)
      rw [madeCells_one (show (Value.slice none 0 0).cells = #[Value.slice none 0 0] from rfl)] at hown1
      have hGp := hG.putNew hlt hS1.size (l := List.replicate mi (0 : Nat)) (by simp) hown1 hb1 (fun x v h9 => natC_set ((natC 2).last _ _ _ _ hb1 h9) hcs) (fun k hk => by
        rw [List.length_replicate] at hk
        simp only [List.getD_eq_getElem?_getD, List.getElem?_replicate, if_pos hk, Option.getD_some]
        exact ⟨none, 0, 0, rfl, by rw [limbs_zero]; exact Rd.nil _, by omega⟩)
      have hBp := (hS1.trans (hb1.mono hS1.size)).setCell (p := ⟨w.heap.size, i, none⟩) (Nat.le_refl _) (.slice (some ⟨wo.heap.size, 0, none⟩) mi mi)
      obtain ⟨vs', hvs'⟩ : ∃ v9, v9 = vs.set i (.slice (some ⟨wo.heap.size, 0, none⟩) mi mi) := ⟨_, rfl⟩
      rw [← hvs', rowsBy_set hlt] at hGp
      clear hvs' hown1 hb1 hG hcell hcs hcf
      go_loopw [5] (fun jv wr => ∃ j : Nat, j ≤ mi ∧ jv = .int .i64 (j : Int) ∧ GridR (natC 2) 0 wr w.heap.size 44 37 1 (some ⟨w.heap.size, 0, none⟩) n n vs' (rowsBy (fun i => (Z.getD i []).map natOf) n i ((xs.take j).map natOf ++ List.replicate (mi - j) 0)) ∧ Below w.heap.size w wr) (fun jv _ => mi - (intOf jv).toNat)
      case atStart => exact ⟨0, Nat.zero_le _, rfl, by simpa using hGp, hBp⟩
      case round =>
        clear hGp hBp hS1
        obtain ⟨j, hj, rfl, hG, hS2⟩ := hrel
        have hcell := (hS2.cell (p := ⟨bV, oV + i, none⟩) hbV).trans HCV.out
        by_cases hltj : j < mi
        · obtain ⟨bi, oi, vX, rfl, hbi, hcX, hvX⟩ := hrd.at1 hltj
          obtain ⟨rfl, hzr1, hzr2⟩ := hvX
          have hrw : (rowsBy (fun i => (Z.getD i []).map natOf) n i ((xs.take j).map natOf ++ List.replicate (mi - j) 0)).getD i [] = (xs.take j).map natOf ++ List.replicate (mi - j) 0 := by
            rw [rowsBy_row hlt, if_neg (by omega), if_pos rfl]
          have HROW := hide hrw
          have hxl : xs.length = mi := by have := HLI.out; omega
          have HSET := hide (take_map_set natOf (0 : Nat) (0 : Int) hxl hltj)
          have hlr : ((rowsBy (fun i => (Z.getD i []).map natOf) n i ((xs.take j).map natOf ++ List.replicate (mi - j) 0)).getD i []).length = mi := by
            rw [hrw, List.length_append, List.length_map, List.length_replicate, List.length_take]; omega
          obtain ⟨b0, m0, e0, hv0, hsl0, hb0a, hb0b, _, _, hlm0⟩ := hG.row hlt (by omega)
          obtain ⟨⟨vL, hxL, hrL⟩, hfL⟩ := hG.cell hlt hv0 (k := j) (by omega)
          have HRG := hide (And.intro hv0 (Nat.lt_of_lt_of_eq hltj hlr.symm))
          obtain ⟨W, hWd⟩ : ∃ W : World, W = wr := ⟨_, rfl⟩
          subst hWd
          have K0 := hide (stays hsl0)
          have KL := hide (stays hxL)
          have KF := hide (staysF hxL hfL)
          have KV := hide (stays hcell)
          have KX := hide (stays ((hS2.cell (p := ⟨bi, oi + j, none⟩) hbi).trans hcX))
          have q1 : (j : Int) < (m0 : Int) := by omega
          have q4 : (i : Int) < (n : Int) := by omega
          have q5 : (j : Int) < (mi : Int) := by omega
          clear hrw hxl hlr hrL hv0 hlm0 hxL hfL hcX
          generalize hzd : xs.getD j 0 = z at *
          have HZD := hide hzd
          clear hzd
          obtain ⟨x, hx0⟩ : ∃ x : Nat, natOf z = x := ⟨_, rfl⟩
          have HMX : Hid (max 0 z = (x : Int)) := by rw [Hid, ← hx0]; unfold natOf; omega
          have hxr : x ≤ 9223372036854775807 := by rw [← hx0]; unfold natOf; omega
          rw [hx0] at HSET
          clear hx0
          have q6 : (0 : Int) ≤ (x : Int) := by omega
          go_wp2_with fail
          refine wp_region_tab 15 50 [IsV (.slice (some ⟨w.heap.size, 0, none⟩) n n), IsV (.int .i64 (i : Int)), IsV (.pointer (some ⟨w.heap.size, i, none⟩)), IsV (.slice (some ⟨b0, 0, none⟩) m0 e0), IsV (.int .i64 (j : Int)), IsV (.slice (some ⟨bV, oV, none⟩) n c), IsV (.int .i64 (i : Int)), IsV (.pointer (some ⟨bV, oV + i, none⟩)), IsV (.slice (some ⟨bi, oi, none⟩) mi ei), IsV (.int .i64 (j : Int)), IsV (.pointer (some ⟨bi, oi + j, none⟩)), IsV (.int .i64 z), IsV (.int .i64 (x : Int)), IsV (.int .u64 (x : Int)), IsNum x 2] (From W) (by kernel_rfl) (by kernel_rfl) (by kernel_rfl) rfl From.lasts (From.drew (From.refl W)) ?_
          simp only [List.take_succ_cons, List.drop_succ_cons, List.take_zero, List.drop_zero]
          refine Tab.cons IsV.lasting (fun wx hx hd => ?_) (fun v33 => ?_)
          · skip
            clear hd
            intro KK hK
            go_simp
            exact hK.out _ _ rfl (Below.refl _ _)
          simp only [Act.put, List.setIfInBounds_toArray, List.set_cons_zero, List.set_cons_succ]
          refine Tab.cons IsV.lasting (fun wx hx hd => ?_) (fun v34 => ?_)
          · skip
            clear hd
            intro KK hK
            go_simp
            exact hK.out _ _ rfl (Below.refl _ _)
          simp only [Act.put, List.setIfInBounds_toArray, List.set_cons_zero, List.set_cons_succ]
          refine Tab.cons IsV.lasting (fun wx hx hd => ?_) (fun v35 => ?_)
          · skip
            have e33 : v33 = _ := (hd _ (.tail _ (.head _)) (by kernel_rfl) : (IsV (.slice (some ⟨w.heap.size, 0, none⟩) n n)) v33 wx)
            subst e33
            have e34 : v34 = _ := (hd _ (.head _) (by kernel_rfl) : (IsV (.int .i64 (i : Int))) v34 wx)
            subst e34
            clear hd
            intro KK hK
            go_simp
            exact hK.out _ _ rfl (Below.refl _ _)
          simp only [Act.put, List.setIfInBounds_toArray, List.set_cons_zero, List.set_cons_succ]
          refine Tab.cons IsV.lasting (fun wx hx hd => ?_) (fun v36 => ?_)
          · skip
            have e35 : v35 = _ := (hd _ (.head _) (by kernel_rfl) : (IsV (.pointer (some ⟨w.heap.size, i, none⟩))) v35 wx)
            subst e35
            clear hd
            intro KK hK
            have hcell0 := K0.out _ hx
            go_simp
            exact hK.out _ _ rfl (Below.refl _ _)
          simp only [Act.put, List.setIfInBounds_toArray, List.set_cons_zero, List.set_cons_succ]
          refine Tab.cons IsV.lasting (fun wx hx hd => ?_) (fun v37 => ?_)
          · skip
            clear hd
            intro KK hK
            go_simp
            exact hK.out _ _ rfl (Below.refl _ _)
          simp only [Act.put, List.setIfInBounds_toArray, List.set_cons_zero, List.set_cons_succ]
          refine Tab.cons IsV.lasting (fun wx hx hd => ?_) (fun v38 => ?_)
          · skip
            clear hd
            intro KK hK
            go_simp
            exact hK.out _ _ rfl (Below.refl _ _)
          simp only [Act.put, List.setIfInBounds_toArray, List.set_cons_zero, List.set_cons_succ]
          refine Tab.cons IsV.lasting (fun wx hx hd => ?_) (fun v39 => ?_)
          · skip
            clear hd
            intro KK hK
            go_simp
            exact hK.out _ _ rfl (Below.refl _ _)
          simp only [Act.put, List.setIfInBounds_toArray, List.set_cons_zero, List.set_cons_succ]
          refine Tab.cons IsV.lasting (fun wx hx hd => ?_) (fun v40 => ?_)
          · skip
            have e38 : v38 = _ := (hd _ (.tail _ (.head _)) (by kernel_rfl) : (IsV (.slice (some ⟨bV, oV, none⟩) n c)) v38 wx)
            subst e38
            have e39 : v39 = _ := (hd _ (.head _) (by kernel_rfl) : (IsV (.int .i64 (i : Int))) v39 wx)
            subst e39
            clear hd
            intro KK hK
            go_simp
            exact hK.out _ _ rfl (Below.refl _ _)
          simp only [Act.put, List.setIfInBounds_toArray, List.set_cons_zero, List.set_cons_succ]
          refine Tab.cons IsV.lasting (fun wx hx hd => ?_) (fun v41 => ?_)
          · skip
            have e40 : v40 = _ := (hd _ (.head _) (by kernel_rfl) : (IsV (.pointer (some ⟨bV, oV + i, none⟩))) v40 wx)
            subst e40
            clear hd
            intro KK hK
            have hcell0 := KV.out _ hx
            go_simp
            exact hK.out _ _ rfl (Below.refl _ _)
          simp only [Act.put, List.setIfInBounds_toArray, List.set_cons_zero, List.set_cons_succ]
          refine Tab.cons IsV.lasting (fun wx hx hd => ?_) (fun v42 => ?_)
          · skip
            clear hd
            intro KK hK
            go_simp
            exact hK.out _ _ rfl (Below.refl _ _)
          simp only [Act.put, List.setIfInBounds_toArray, List.set_cons_zero, List.set_cons_succ]
          refine Tab.cons IsV.lasting (fun wx hx hd => ?_) (fun v43 => ?_)
          · skip
            have e41 : v41 = _ := (hd _ (.tail _ (.head _)) (by kernel_rfl) : (IsV (.slice (some ⟨bi, oi, none⟩) mi ei)) v41 wx)
            subst e41
            have e42 : v42 = _ := (hd _ (.head _) (by kernel_rfl) : (IsV (.int .i64 (j : Int))) v42 wx)
            subst e42
            clear hd
            intro KK hK
            go_simp
            exact hK.out _ _ rfl (Below.refl _ _)
          simp only [Act.put, List.setIfInBounds_toArray, List.set_cons_zero, List.set_cons_succ]
          refine Tab.cons IsV.lasting (fun wx hx hd => ?_) (fun v44 => ?_)
          · skip
            have e43 : v43 = _ := (hd _ (.head _) (by kernel_rfl) : (IsV (.pointer (some ⟨bi, oi + j, none⟩))) v43 wx)
            subst e43
            clear hd
            intro KK hK
            have hcell0 := KX.out _ hx
            go_simp
            exact hK.out _ _ rfl (Below.refl _ _)
          simp only [Act.put, List.setIfInBounds_toArray, List.set_cons_zero, List.set_cons_succ]
          refine Tab.cons IsV.lasting (fun wx hx hd => ?_) (fun v45 => ?_)
          · skip
            have e44 : v44 = _ := (hd _ (.head _) (by kernel_rfl) : (IsV (.int .i64 z)) v44 wx)
            subst e44
            clear hd
            intro KK hK
            go_simp
            rw [HMX.out]
            exact hK.out _ _ rfl (Below.refl _ _)
          simp only [Act.put, List.setIfInBounds_toArray, List.set_cons_zero, List.set_cons_succ]
          refine Tab.cons IsV.lasting (fun wx hx hd => ?_) (fun v46 => ?_)
          · skip
            have e45 : v45 = _ := (hd _ (.head _) (by kernel_rfl) : (IsV (.int .i64 (x : Int))) v45 wx)
            subst e45
            clear hd
            intro KK hK
            go_simp
            first | exact hK.out _ _ rfl (Below.refl _ _) | (rw [show IntKind.u64.wrap (x : Int) = (x : Int) from IntWalk.u64_in _ (by omega)]; exact hK.out _ _ rfl (Below.refl _ _))
          simp only [Act.put, List.setIfInBounds_toArray, List.set_cons_zero, List.set_cons_succ]
          refine Tab.cons IsNum.lasting (fun wx hx hd => ?_) (fun v47 => ?_)
          · skip
            have e46 : v46 = _ := (hd _ (.head _) (by kernel_rfl) : (IsV (.int .u64 (x : Int))) v46 wx)
            subst e46
            clear hd
            intro KK hK
            go_simp
            refine (rof_any x _ (by omega)).mono ?_
            rintro e w' ⟨A', n', c', rfl, h', hb'⟩
            exact hK.out _ _ ⟨A', n', c', rfl, h', by rw [← h'.len]; exact length_limbs_le (by omega)⟩ hb'
          simp only [Act.put, List.setIfInBounds_toArray, List.set_cons_zero, List.set_cons_succ]
          refine Tab.nil fun wx hx hd => ?_
          have e36 : v36 = _ := (hd _ (.tail _ (.tail _ (.tail _ (.tail _ (.tail _ (.tail _ (.tail _ (.tail _ (.tail _ (.tail _ (.tail _ (.head _)))))))))))) : (IsV (.slice (some ⟨b0, 0, none⟩) m0 e0)) v36 wx)
          subst e36
          have e37 : v37 = _ := (hd _ (.tail _ (.tail _ (.tail _ (.tail _ (.tail _ (.tail _ (.tail _ (.tail _ (.tail _ (.tail _ (.head _))))))))))) : (IsV (.int .i64 (j : Int))) v37 wx)
          subst e37
          obtain ⟨A47, n47, c47, rfl, h47, k47⟩ := (hd _ (.head _) : (IsNum x 2) v47 wx)
          clear hd
          have hcellL := KL.out _ hx
          have hfrL := KF.out _ hx
          have hGs := (hG.below hx.out).store (i := i) hlt HRG.out.1 (k := j) HRG.out.2 (x := x) (u := .slice A47 n47 c47) ⟨_, _, _, rfl, h47, k47⟩
          have hBs : Below w.heap.size w (wx.setCell ⟨b0, j, none⟩ (.slice A47 n47 c47)) := (hS2.trans (hx.out.mono hS2.size)).setCell hb0a _
          have hsame := HSET.out
          unfold set2 at hGs
          rw [HROW.out, hsame, rowsBy_set HIL.out] at hGs
          have HGS := hide (And.intro hGs hBs)
          clear hsame hGs hBs hG hS2 q4 q6
          go_wp2
          go_roundw
          case rel => exact ⟨j + 1, by omega, by go_num, HGS.out.1, HGS.out.2⟩
          case measure => simp [intOf]; omega
        · obtain rfl : j = mi := by omega
          have hall : (xs.take j).map natOf ++ List.replicate (j - j) 0 = (Z.getD i []).map natOf := by
            rw [Nat.sub_self, List.replicate_zero, List.append_nil, List.take_of_length_le (by have := HLI.out; omega), HXS.out]
          rw [hall] at hG
          have HNX2 : Hid (rowsBy (fun i => (Z.getD i []).map natOf) n i ((Z.getD i []).map natOf) = rowsBy (fun i => (Z.getD i []).map natOf) n (i + 1) []) := rowsBy_next _ n i
          rw [HNX2.out] at hG
          clear hall
          go_wp2
          go_roundw
          case rel => exact ⟨i + 1, vs', by omega, by go_num, hG, hS2⟩
          case measure => simp [intOf]; omega
    · obtain rfl : i = n := by omega
      have hend := rowsBy_end (fun i => (Z.getD i []).map natOf) i
      rw [hend] at hG
      have hmr := map_rows natOf Z
      rw [HLEN.out] at hmr
      rw [hmr] at hG
      clear hend hmr
      go_wp2
      go_ret
      exact ⟨_, _, _, vs, rfl, hG, hS1⟩

def bringOf (z : Int) : Int := (z.tmod 9 + 9).tmod 9
theorem tmod9 (z : Int) : -8 ≤ z.tmod 9 ∧ z.tmod 9 ≤ 8 := by
  have h1 := Int.lt_tmod_of_pos z (show (0 : Int) < 9 by omega)
  have h2 := Int.tmod_lt_of_pos z (show (0 : Int) < 9 by omega)
  omega
theorem bring_range (z : Int) : 0 ≤ bringOf z ∧ bringOf z ≤ 8 := by
  have h1 : -8 ≤ z.tmod 9 ∧ z.tmod 9 ≤ 8 := tmod9 z
  unfold bringOf
  rw [Int.tmod_eq_emod_of_nonneg (by omega)]
  omega
theorem bring_any (z : Int) (w : World) : Calls Try.prog 35 #[.int .i64 z] w (Makes (.int .i64 (bringOf z)) w) := by
  have h1 : -8 ≤ z.tmod 9 ∧ z.tmod 9 ≤ 8 := tmod9 z
  have h2 := bring_range z
  go_enter Try.func35, Try.ntmps35
  go_wp2
  go_ret
  exact ⟨ret_int rfl (by unfold bringOf; exact (Int.tmod_eq_emod_of_nonneg (by omega)).symm), Below.refl _ _⟩
set_option maxHeartbeats 4000000 in
set_option maxRecDepth 10000 in
theorem brought_any (w : World) (A : Option Addr) (n c : Nat) (Z : List (List Int)) (hV : RdR intC 0 w 1 A n c Z) (hn : n ≤ 8796093022208) (hrow : ∀ i, i < n → (Z.getD i []).length ≤ 8796093022208) :
    Calls Try.prog 15 #[.slice A n c] w (RetGrid intC 0 22 3 1 (Z.map fun l => l.map bringOf) w) := by
  have HLEN := hide hV.len
  have HRW := hide hrow
  obtain ⟨i1, hi1, hz1, hz2, hz3⟩ := info_parts Try.infoRowint
  obtain ⟨i0, hy0, hy1, hy2, hy3⟩ := info_parts Try.infoInt
  have h63 := hV.le63
  clear hrow
  go_enter Try.func15, Try.ntmps15
  go_wp2_with (at_make; refine wpList_make_row _ rfl _ _ _ 22 rfl i1 _ 1 24 Try.underlying26 hi1 hz1 hz2 hz3 _ _ _ _ n rfl rfl rfl rfl (by omega) (by unfold maxLen; omega) ?_; intro w1 hown1 hb1)
  rw [madeCells_one (show (Value.slice none 0 0).cells = #[Value.slice none 0 0] from rfl)] at hown1
  have hgr := GridR.made intC 0 w w.heap.size 22 3 1 n hown1
  clear hown1
  go_loopw [4, 5] (fun iv _ wr => ∃ (i : Nat) (vs : List Value), i ≤ n ∧ iv = .int .i64 (i : Int) ∧ GridR intC 0 wr w.heap.size 22 3 1 (some ⟨w.heap.size, 0, none⟩) n n vs (rowsBy (fun i => (Z.getD i []).map bringOf) n i []) ∧ Below w.heap.size w wr) (fun iv _ _ => n - (intOf iv).toNat)
  case atStart => exact ⟨0, _, Nat.zero_le _, rfl, by rw [rowsBy_zero]; exact hgr, hb1⟩
  case round =>
    clear hgr hb1
    obtain ⟨i, vs, hi, rfl, hG, hS1⟩ := hrel
    by_cases hlt : i < n
    · obtain ⟨bV, oV, Ai, mi, ei, rfl, hbV, hcV, hrd⟩ := hV.at hlt
      have hcell := (hS1.cell (p := ⟨bV, oV + i, none⟩) hbV).trans hcV
      have hmi63 := hrd.le63
      have HLI := hide hrd.len
      have hmi : mi ≤ 8796093022208 := by
        have h1 := HRW.out i hlt
        have h2 := hrd.len
        omega
      have HNX := hide (rowsBy_next (fun i => (Z.getD i []).map bringOf) n i)
      have HCV := hide hcV
      have HIL := hide hlt
      obtain ⟨rows, g1, g2, g3, g4⟩ := hG.ex
      have hslot := g1.slot hlt
      have hfree := g1.slotFree i
      obtain ⟨sA, sn, sc, hsl⟩ : ∃ A n c, vs.getD i undef = .slice A n c := by
        rcases g1.form hlt with ⟨h9, _⟩ | ⟨b, m, d, h9, _⟩
        · exact ⟨_, _, _, h9⟩
        · exact ⟨_, _, _, h9⟩
      rw [hsl] at hslot
      have HSL := hide (And.intro hslot hfree)
      have HLT := hide (World.block_lt_of_cell? wr _ hslot)
      clear g1 g2 g3 g4 hslot hfree hsl hcV
      obtain ⟨wo, rfl⟩ : ∃ wo : World, wo = wr := ⟨_, rfl⟩
      generalize hxs : Z.getD i [] = xs at *
      have HXS := hide hxs
      clear hxs
      go_wp2_with (at_make; refine wpList_make_row _ rfl _ _ _ 3 rfl i0 _ 1 8 Try.underlying22 hy0 hy1 hy2 hy3 _ _ _ _ mi rfl rfl rfl rfl (by omega) (by unfold maxLen; omega) ?_; intro w1 hown1 hb1; have hcs := (hb1.cell (p := ⟨w.heap.size, i, none⟩) HLT.out).trans HSL.out.1; have hcf := (hb1.frozen (p := ⟨w.heap.size, i, none⟩) HLT.out).trans HSL.out.2)
      clear hcs hcf
      rw [madeCells_one (show (Value.int .i64 0).cells = #[Value.int .i64 0] from rfl)] at hown1
      have hGp := hG.putNew hlt hS1.size (l := List.replicate mi (0 : Int)) (by simp) hown1 hb1 (fun x v h9 => h9) (fun k hk => by
        rw [List.length_replicate] at hk
        simp only [List.getD_eq_getElem?_getD, List.getElem?_replicate, if_pos hk, Option.getD_some]
        exact ⟨rfl, by decide, by decide⟩)
      have hBp := (hS1.trans (hb1.mono hS1.size)).setCell (p := ⟨w.heap.size, i, none⟩) (Nat.le_refl _) (.slice (some ⟨wo.heap.size, 0, none⟩) mi mi)
      obtain ⟨vs', hvs'⟩ : ∃ v9, v9 = vs.set i (.slice (some ⟨wo.heap.size, 0, none⟩) mi mi) := ⟨_, rfl⟩
      rw [← hvs', rowsBy_set hlt] at hGp
      clear hvs' hown1 hb1 hG hcell
      go_loopw [5] (fun jv wr => ∃ j : Nat, j ≤ mi ∧ jv = .int .i64 (j : Int) ∧ GridR intC 0 wr w.heap.size 22 3 1 (some ⟨w.heap.size, 0, none⟩) n n vs' (rowsBy (fun i => (Z.getD i []).map bringOf) n i ((xs.take j).map bringOf ++ List.replicate (mi - j) 0)) ∧ Below w.heap.size w wr) (fun jv _ => mi - (intOf jv).toNat)
      case atStart => exact ⟨0, Nat.zero_le _, rfl, by simpa using hGp, hBp⟩
      case round =>
        clear hGp hBp hS1
        obtain ⟨j, hj, rfl, hG, hS2⟩ := hrel
        have hcell := (hS2.cell (p := ⟨bV, oV + i, none⟩) hbV).trans HCV.out
        by_cases hltj : j < mi
        · obtain ⟨bi, oi, vX, rfl, hbi, hcX, hvX⟩ := hrd.at1 hltj
          obtain ⟨rfl, hzr1, hzr2⟩ := hvX
          have hrw : (rowsBy (fun i => (Z.getD i []).map bringOf) n i ((xs.take j).map bringOf ++ List.replicate (mi - j) 0)).getD i [] = (xs.take j).map bringOf ++ List.replicate (mi - j) 0 := by
            rw [rowsBy_row hlt, if_neg (by omega), if_pos rfl]
          have HROW := hide hrw
          have hxl : xs.length = mi := by have := HLI.out; omega
          have HSET := hide (take_map_set bringOf (0 : Int) (0 : Int) hxl hltj)
          have hlr : ((rowsBy (fun i => (Z.getD i []).map bringOf) n i ((xs.take j).map bringOf ++ List.replicate (mi - j) 0)).getD i []).length = mi := by
            rw [hrw, List.length_append, List.length_map, List.length_replicate, List.length_take]; omega
          obtain ⟨b0, m0, e0, hv0, hsl0, hb0a, hb0b, _, _, hlm0⟩ := hG.row hlt (by omega)
          obtain ⟨⟨vL, hxL, hrL⟩, hfL⟩ := hG.cell hlt hv0 (k := j) (by omega)
          have HRG := hide (And.intro hv0 (Nat.lt_of_lt_of_eq hltj hlr.symm))
          obtain ⟨W, hWd⟩ : ∃ W : World, W = wr := ⟨_, rfl⟩
          subst hWd
          have K0 := hide (stays hsl0)
          have KL := hide (stays hxL)
          have KF := hide (staysF hxL hfL)
          have KV := hide (stays hcell)
          have KX := hide (stays ((hS2.cell (p := ⟨bi, oi + j, none⟩) hbi).trans hcX))
          have q1 : (j : Int) < (m0 : Int) := by omega
          have q4 : (i : Int) < (n : Int) := by omega
          have q5 : (j : Int) < (mi : Int) := by omega
          clear hrw hxl hlr hrL hv0 hlm0 hxL hfL hcX
          generalize hzd : xs.getD j 0 = z at *
          have HZD := hide hzd
          clear hzd
          obtain ⟨y, hy0⟩ : ∃ y : Int, bringOf z = y := ⟨_, rfl⟩
          have hyr := bring_range z
          rw [hy0] at HSET hyr
          have HY := hide hy0
          have hy1 : (-9223372036854775808 : Int) ≤ y := by omega
          have hy2 : y ≤ 9223372036854775807 := by omega
          clear hy0 hyr
          go_wp2_with fail
          refine wp_region_tab 13 48 [IsV (.slice (some ⟨w.heap.size, 0, none⟩) n n), IsV (.int .i64 (i : Int)), IsV (.pointer (some ⟨w.heap.size, i, none⟩)), IsV (.slice (some ⟨b0, 0, none⟩) m0 e0), IsV (.int .i64 (j : Int)), IsV (.slice (some ⟨bV, oV, none⟩) n c), IsV (.int .i64 (i : Int)), IsV (.pointer (some ⟨bV, oV + i, none⟩)), IsV (.slice (some ⟨bi, oi, none⟩) mi ei), IsV (.int .i64 (j : Int)), IsV (.pointer (some ⟨bi, oi + j, none⟩)), IsV (.int .i64 z), IsV (.int .i64 y)] (From W) (by kernel_rfl) (by kernel_rfl) (by kernel_rfl) rfl From.lasts (From.drew (From.refl W)) ?_
          simp only [List.take_succ_cons, List.drop_succ_cons, List.take_zero, List.drop_zero]
          refine Tab.cons IsV.lasting (fun wx hx hd => ?_) (fun v33 => ?_)
          · skip
            clear hd
            intro KK hK
            go_simp
            exact hK.out _ _ rfl (Below.refl _ _)
          simp only [Act.put, List.setIfInBounds_toArray, List.set_cons_zero, List.set_cons_succ]
          refine Tab.cons IsV.lasting (fun wx hx hd => ?_) (fun v34 => ?_)
          · skip
            clear hd
            intro KK hK
            go_simp
            exact hK.out _ _ rfl (Below.refl _ _)
          simp only [Act.put, List.setIfInBounds_toArray, List.set_cons_zero, List.set_cons_succ]
          refine Tab.cons IsV.lasting (fun wx hx hd => ?_) (fun v35 => ?_)
          · skip
            have e33 : v33 = _ := (hd _ (.tail _ (.head _)) (by kernel_rfl) : (IsV (.slice (some ⟨w.heap.size, 0, none⟩) n n)) v33 wx)
            subst e33
            have e34 : v34 = _ := (hd _ (.head _) (by kernel_rfl) : (IsV (.int .i64 (i : Int))) v34 wx)
            subst e34
            clear hd
            intro KK hK
            go_simp
            exact hK.out _ _ rfl (Below.refl _ _)
          simp only [Act.put, List.setIfInBounds_toArray, List.set_cons_zero, List.set_cons_succ]
          refine Tab.cons IsV.lasting (fun wx hx hd => ?_) (fun v36 => ?_)
          · skip
            have e35 : v35 = _ := (hd _ (.head _) (by kernel_rfl) : (IsV (.pointer (some ⟨w.heap.size, i, none⟩))) v35 wx)
            subst e35
            clear hd
            intro KK hK
            have hcell0 := K0.out _ hx
            go_simp
            exact hK.out _ _ rfl (Below.refl _ _)
          simp only [Act.put, List.setIfInBounds_toArray, List.set_cons_zero, List.set_cons_succ]
          refine Tab.cons IsV.lasting (fun wx hx hd => ?_) (fun v37 => ?_)
          · skip
            clear hd
            intro KK hK
            go_simp
            exact hK.out _ _ rfl (Below.refl _ _)
          simp only [Act.put, List.setIfInBounds_toArray, List.set_cons_zero, List.set_cons_succ]
          refine Tab.cons IsV.lasting (fun wx hx hd => ?_) (fun v38 => ?_)
          · skip
            clear hd
            intro KK hK
            go_simp
            exact hK.out _ _ rfl (Below.refl _ _)
          simp only [Act.put, List.setIfInBounds_toArray, List.set_cons_zero, List.set_cons_succ]
          refine Tab.cons IsV.lasting (fun wx hx hd => ?_) (fun v39 => ?_)
          · skip
            clear hd
            intro KK hK
            go_simp
            exact hK.out _ _ rfl (Below.refl _ _)
          simp only [Act.put, List.setIfInBounds_toArray, List.set_cons_zero, List.set_cons_succ]
          refine Tab.cons IsV.lasting (fun wx hx hd => ?_) (fun v40 => ?_)
          · skip
            have e38 : v38 = _ := (hd _ (.tail _ (.head _)) (by kernel_rfl) : (IsV (.slice (some ⟨bV, oV, none⟩) n c)) v38 wx)
            subst e38
            have e39 : v39 = _ := (hd _ (.head _) (by kernel_rfl) : (IsV (.int .i64 (i : Int))) v39 wx)
            subst e39
            clear hd
            intro KK hK
            go_simp
            exact hK.out _ _ rfl (Below.refl _ _)
          simp only [Act.put, List.setIfInBounds_toArray, List.set_cons_zero, List.set_cons_succ]
          refine Tab.cons IsV.lasting (fun wx hx hd => ?_) (fun v41 => ?_)
          · skip
            have e40 : v40 = _ := (hd _ (.head _) (by kernel_rfl) : (IsV (.pointer (some ⟨bV, oV + i, none⟩))) v40 wx)
            subst e40
            clear hd
            intro KK hK
            have hcell0 := KV.out _ hx
            go_simp
            exact hK.out _ _ rfl (Below.refl _ _)
          simp only [Act.put, List.setIfInBounds_toArray, List.set_cons_zero, List.set_cons_succ]
          refine Tab.cons IsV.lasting (fun wx hx hd => ?_) (fun v42 => ?_)
          · skip
            clear hd
            intro KK hK
            go_simp
            exact hK.out _ _ rfl (Below.refl _ _)
          simp only [Act.put, List.setIfInBounds_toArray, List.set_cons_zero, List.set_cons_succ]
          refine Tab.cons IsV.lasting (fun wx hx hd => ?_) (fun v43 => ?_)
          · skip
            have e41 : v41 = _ := (hd _ (.tail _ (.head _)) (by kernel_rfl) : (IsV (.slice (some ⟨bi, oi, none⟩) mi ei)) v41 wx)
            subst e41
            have e42 : v42 = _ := (hd _ (.head _) (by kernel_rfl) : (IsV (.int .i64 (j : Int))) v42 wx)
            subst e42
            clear hd
            intro KK hK
            go_simp
            exact hK.out _ _ rfl (Below.refl _ _)
          simp only [Act.put, List.setIfInBounds_toArray, List.set_cons_zero, List.set_cons_succ]
          refine Tab.cons IsV.lasting (fun wx hx hd => ?_) (fun v44 => ?_)
          · skip
            have e43 : v43 = _ := (hd _ (.head _) (by kernel_rfl) : (IsV (.pointer (some ⟨bi, oi + j, none⟩))) v43 wx)
            subst e43
            clear hd
            intro KK hK
            have hcell0 := KX.out _ hx
            go_simp
            exact hK.out _ _ rfl (Below.refl _ _)
          simp only [Act.put, List.setIfInBounds_toArray, List.set_cons_zero, List.set_cons_succ]
          refine Tab.cons IsV.lasting (fun wx hx hd => ?_) (fun v45 => ?_)
          · skip
            have e44 : v44 = _ := (hd _ (.head _) (by kernel_rfl) : (IsV (.int .i64 z)) v44 wx)
            subst e44
            clear hd
            intro KK hK
            go_simp
            refine (bring_any z _).mono ?_
            rintro e w' ⟨rfl, hb'⟩
            rw [HY.out]
            exact hK.out _ _ rfl hb'
          simp only [Act.put, List.setIfInBounds_toArray, List.set_cons_zero, List.set_cons_succ]
          refine Tab.nil fun wx hx hd => ?_
          have e36 : v36 = _ := (hd _ (.tail _ (.tail _ (.tail _ (.tail _ (.tail _ (.tail _ (.tail _ (.tail _ (.tail _ (.head _)))))))))) : (IsV (.slice (some ⟨b0, 0, none⟩) m0 e0)) v36 wx)
          subst e36
          have e37 : v37 = _ := (hd _ (.tail _ (.tail _ (.tail _ (.tail _ (.tail _ (.tail _ (.tail _ (.tail _ (.head _))))))))) : (IsV (.int .i64 (j : Int))) v37 wx)
          subst e37
          have e45 : v45 = _ := (hd _ (.head _) : (IsV (.int .i64 y)) v45 wx)
          subst e45
          clear hd
          have hcellL := KL.out _ hx
          have hfrL := KF.out _ hx
          have hGs := (hG.below hx.out).store (i := i) hlt HRG.out.1 (k := j) HRG.out.2 (x := y) (u := .int .i64 y) ⟨rfl, hy1, hy2⟩
          have hBs : Below w.heap.size w (wx.setCell ⟨b0, j, none⟩ (.int .i64 y)) := (hS2.trans (hx.out.mono hS2.size)).setCell hb0a _
          have hsame := HSET.out
          unfold set2 at hGs
          rw [HROW.out, hsame, rowsBy_set HIL.out] at hGs
          have HGS := hide (And.intro hGs hBs)
          clear hsame hGs hBs hG hS2 q4
          go_wp2
          go_roundw
          case rel => exact ⟨j + 1, by omega, by go_num, HGS.out.1, HGS.out.2⟩
          case measure => simp [intOf]; omega
        · obtain rfl : j = mi := by omega
          have hall : (xs.take j).map bringOf ++ List.replicate (j - j) 0 = (Z.getD i []).map bringOf := by
            rw [Nat.sub_self, List.replicate_zero, List.append_nil, List.take_of_length_le (by have := HLI.out; omega), HXS.out]
          rw [hall] at hG
          have HNX2 : Hid (rowsBy (fun i => (Z.getD i []).map bringOf) n i ((Z.getD i []).map bringOf) = rowsBy (fun i => (Z.getD i []).map bringOf) n (i + 1) []) := rowsBy_next _ n i
          rw [HNX2.out] at hG
          clear hall
          go_wp2
          go_roundw
          case rel => exact ⟨i + 1, vs', by omega, by go_num, hG, hS2⟩
          case measure => simp [intOf]; omega
    · obtain rfl : i = n := by omega
      have hend := rowsBy_end (fun i => (Z.getD i []).map bringOf) i
      rw [hend] at hG
      have hmr := map_rows bringOf Z
      rw [HLEN.out] at hmr
      rw [hmr] at hG
      clear hend hmr
      go_wp2
      go_ret
      exact ⟨_, _, _, vs, rfl, hG, hS1⟩
end Go.Proofs.Ytjadgomakoaibaa
