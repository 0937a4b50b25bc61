/- The walk of rows at api.Least. Sums over least weights along a layered graph: they stay canonical, and how great the numbers grow. Rows of least weights as make lays them: nought, no limbs. -/
import Derived.Test.YtjadgomakoaibaaRowsNat
import Derived.Test.YtjadgomakoaibaaLeastC
import Derived.Test.YtjadgomakoaibaaLst
import Derived.Test.YtjadgomakoaibaaMakes
namespace Go.Proofs.Ytjadgomakoaibaa
open Go.RowKit

theorem flatR_empty (n : Nat) : flatR (List.replicate n []) = List.replicate n [] := by simp [flatR, flatL]
theorem flat_more {W : List Int} {z : LW} {i k : Nat} (h : i < W.length) : (flatR (rowsAt W z i k)).set i ((flatR (rowsAt W z i k)).getD i [] ++ [.inl z.1, .inr z.2]) = flatR (rowsAt W z i (k + 1)) := by
  rw [flatR_row, show ([.inl z.1, .inr z.2] : List (Int ⊕ Nat)) = flatL [z] from rfl, ← flatL_append, flatR_set, rowsAt_more h]
theorem flatL_rep {z : LW} {d : Int ⊕ Nat} {m l : Nat} (h : l < (flatL (List.replicate m z)).length) : (flatL (List.replicate m z)).getD l d = .inl z.1 ∨ (flatL (List.replicate m z)).getD l d = .inr z.2 := by
  induction m generalizing l with
  | zero => simp [flatL] at h
  | succ m ih =>
    rw [flatL_replicate] at h ⊢
    match l with
    | 0 => exact .inl rfl
    | 1 => exact .inr rfl
    | l + 2 => simpa using ih (l := l) (by simpa using h)
theorem flat_all {W : List Int} {z : LW} {d : Int ⊕ Nat} {i k j l : Nat} (h : j < W.length) (hl : l < ((flatR (rowsAt W z i k)).getD j []).length) : at2 d (flatR (rowsAt W z i k)) j l = .inl z.1 ∨ at2 d (flatR (rowsAt W z i k)) j l = .inr z.2 := by
  unfold at2
  rw [flatR_row, rowsAt_row h] at hl ⊢
  split at hl
  · rename_i h1
    rw [if_pos h1]; exact flatL_rep hl
  · rename_i h1
    split at hl
    · rename_i h2
      rw [if_neg h1, if_pos h2]; exact flatL_rep hl
    · simp [flatL] at hl
theorem method_zero_lst (k : Nat) (w : World) : (method (k + 1) 54 (.agg #[]) "Zero").run Try.prog w = .ok (81, .agg #[]) w := by kernel_rfl
theorem Try.infoRowlst : (Try.prog.info? 48).map (fun i => (i.zero, i.size, i.bytes)) = some (some (.slice none 0 0), 1, 24) := by kernel_rfl
theorem Try.infoLst : (Try.prog.info? 51).map (fun i => (i.zero, i.size, i.bytes)) = some (some (.agg #[.int .i64 0, .slice none 0 0]), 2, 32) := by kernel_rfl
set_option maxHeartbeats 4000000 in
theorem rows_lst (w : World) (AW : Option Addr) (nW cW : Nat) (W : List Int) (AE : Option Addr) (nE cE : Nat) (hW : RdI w AW nW cW W) (hpos : ∀ i, i < W.length → 1 ≤ W.getD i 0 ∧ W.getD i 0 ≤ 65536) (hn : nW ≤ 65) :
    Calls Try.prog 37 #[.agg #[], .agg #[.slice AW nW cW, .slice AE nE cE]] w (RetGrid (leastC 200) (.inl 0) 48 51 2 (flatR (initR W ((infW, 0) : LW))) w) := by
  obtain ⟨W0, hW0⟩ : ∃ W0, W0 = (w.alloc (.cells #[] 54)).alloc (.cells #[.slice AW nW cW, .slice AE nE cE] 25) := ⟨_, rfl⟩
  have hS : Below w.heap.size w W0 := by rw [hW0]; exact ((Below.refl _ _).alloc (Nat.le_refl _) _).alloc (by simp) _
  have hc0 : W0.cell? ⟨w.heap.size + 1, 0, none⟩ = some (.slice AW nW cW) := by
    have h9 : W0.heap[w.heap.size + 1]? = some (.cells #[.slice AW nW cW, .slice AE nE cE] 25) := by
      have := heap_alloc_new (w.alloc (.cells #[] 54)) (.cells #[.slice AW nW cW, .slice AE nE cE] 25)
      rw [hW0]
      simpa using this
    rw [cell_of_row _ _ _ _ _ _ h9]; rfl
  have hz : w.heap.size + 1 < W0.heap.size := by rw [hW0]; simp
  have hW' := hW.below hS
  have h63 := hW.le63
  have HLEN := hide hW.len
  have HW := hide hW0
  have HC0 := hide hc0
  obtain ⟨i1, hi1, hz1, hz2, hz3⟩ := info_parts Try.infoRowlst
  obtain ⟨i0, hy0, hy1, hy2, hy3⟩ := info_parts Try.infoLst
  clear hW0 hW hc0
  go_enter Try.func37, Try.ntmps37
  go_upto_region 1 with (fail)
  rw [← HW.out]
  have hc0 := HC0.out
  go_wp2_with (at_make; refine wpList_make_row _ rfl _ _ _ 48 rfl i1 _ 1 24 Try.underlying47 hi1 hz1 hz2 hz3 _ _ _ _ nW rfl rfl rfl rfl (by omega) (by unfold maxLen; omega) ?_; intro w1 hown1 hb1; have hc1 := (hb1.cell (p := ⟨w.heap.size + 1, 0, none⟩) hz).trans HC0.out)
  clear hc1 hc0
  rw [madeCells_one (show (Value.slice none 0 0).cells = #[Value.slice none 0 0] from rfl)] at hown1
  have hgr := GridR.made (leastC 200) (.inl 0) W0 W0.heap.size 48 51 2 nW hown1
  clear hown1
  go_loopw [6, 7, 15] (fun _ _ iv wr => ∃ (i : Nat) (vs : List Value), i ≤ nW ∧ iv = .int .i64 (i : Int) ∧ GridR (leastC 200) (.inl 0) wr W0.heap.size 48 51 2 (some ⟨W0.heap.size, 0, none⟩) nW nW vs (flatR (rowsAt W ((infW, 0) : LW) i 0)) ∧ Below W0.heap.size W0 wr) (fun _ _ iv _ => nW - (intOf iv).toNat)
  case atStart => exact ⟨0, _, Nat.zero_le _, rfl, by rw [rowsAt_zero, HLEN.out, flatR_empty]; exact hgr, hb1⟩
  case round =>
    clear hgr hb1
    obtain ⟨i, vs, hi, rfl, hG, hS1⟩ := hrel
    by_cases hlt : i < nW
    · obtain ⟨b, off, rfl, hb, hcell⟩ := (hW'.below hS1).at hlt
      have hil : i < W.length := by rw [HLEN.out]; exact hlt
      obtain ⟨hp1, hp2⟩ := hpos i hil
      obtain ⟨q, hq⟩ : ∃ q : Nat, W.getD i 0 = (q : Int) := ⟨(W.getD i 0).toNat, by omega⟩
      have HQ := hide hq
      have hqm : q ≤ 65536 := by omega
      rw [hq] at hcell
      clear hq hp1 hp2
      obtain ⟨wo, rfl⟩ : ∃ wo : World, wo = wr := ⟨_, rfl⟩
      go_wp2_with fail
      go_loopw [21] (fun kv wr => ∃ (k : Nat) (vs : List Value), k ≤ q ∧ kv = .int .i64 (k : Int) ∧ GridR (leastC 200) (.inl 0) wr W0.heap.size 48 51 2 (some ⟨W0.heap.size, 0, none⟩) nW nW vs (flatR (rowsAt W ((infW, 0) : LW) i k)) ∧ Below W0.heap.size W0 wr) (fun kv _ => q - (intOf kv).toNat)
      case atStart => exact ⟨0, vs, Nat.zero_le _, rfl, hG, hS1⟩
      case round =>
        clear hcell hS1 hG hb
        obtain ⟨k, vs, hk, rfl, hG, hS1⟩ := hrel
        by_cases hltk : k < q
        · have hcr : ((flatR (rowsAt W ((infW, 0) : LW) i k)).getD i []).length = k * 2 := by rw [flatR_row, flatL_length, rowsAt_row hil, if_neg (by omega), if_pos rfl, List.length_replicate]
          obtain ⟨rows, g1, g2, g3, g4⟩ := hG.ex
          obtain ⟨m, hm⟩ := g1.inner i hlt
          have HZ1 : Hid (W0.heap.size < wr.heap.size) := by
            obtain ⟨g, h8, _, h9⟩ := g1.blk (by omega)
            obtain rfl : W0.heap.size = g := by injection h8 with h7; injection h7
            exact h9
          obtain rfl : m = k := by have h1 := hm.1; have h2 := g3 i hlt; omega
          have hslot := g1.slot hlt
          have HSLOT := hide hslot
          have HG := hide hG
          have HG1 := hide g1
          have HG34 := hide (And.intro g3 g4)
          have HM := hide hm
          have HB := hide hS1
          have hwz := hide hS1.size
          have hVB0 := fun k9 (hk9 : (vs.getD i undef).ownBlock = some k9) => (hm.lt k9 hk9).1
          generalize hv0 : vs.getD i undef = v0 at *
          have HVB := hide hVB0
          clear hVB0
          have HV0 := hide hv0
          clear hv0 hcr g1 g3 g4 hG hm g2
          have hF : From wr wr := From.refl wr
          have hlz := hide (show W0.heap.size < wr.heap.size from HZ1.out)
          have hmZ := @method_zero_lst
          go_wp2_with fail
          have hcW := HSLOT.out
          go_region_law (first
            | (go_simp; go_at_call 81; (with_reducible refine (leasts_zero _ 200).mono ?_); rintro e w' ⟨A1, n1, c1, he1, hcn, hb'⟩; have h1 : Rd w' A1 n1 c1 (limbs 0) := hcn.num; have hn1 := hcn.hn; clear hcn; replace he1 : e = .returned (.agg #[.int .i64 infW, .slice A1 n1 c1]) := he1; subst he1; have hF' : From wr w' := From.step (by repeat (first | with_reducible assumption | with_reducible apply From.drew | with_reducible apply From.also)) hb'; have hcw' := ((From.out hF').cell (p := ⟨W0.heap.size, i, none⟩) hlz.out).trans HSLOT.out; have hlw' : W0.heap.size < w'.heap.size := Nat.lt_of_lt_of_le hlz.out (From.out hF').size)
            | (refine step_append_lies _ (by rfl) _ _ _ (by rfl) W0.heap.size 51 i0 _ 2 32 Try.underlying48 hy0 hy1 hy2 hy3 (by rfl) (by omega) v0 m _ (by rfl) (ownsRow_keep HM.out (From.out (From.also hF' _)) (Nat.le_refl _)) _ 1 1 [.int .i64 infW, .slice A1 n1 c1] (by rfl) rfl (World.news_of_block (heap_alloc_new _ _)) (by intro u hu; simp only [List.mem_cons, List.not_mem_nil, or_false] at hu; rcases hu with rfl | rfl <;> rfl) (by omega) (by unfold maxLen; omega) (by omega) (by have := HB.out.size; have := (From.out hF').size; simp; omega) _ rfl ?_; intro g cap w1 hown1 hgrow hat hlt1;
               have happ := (HG1.out.below (From.out (From.also hF' _))).appended hlt hown1 (by rw [HV0.out]; exact hgrow) (by rw [HV0.out]; exact hat);
               have hcell1 := happ.2.1; have hfr1 := happ.2.2; rw [HV0.out] at hcell1; clear happ))
          all_goals
            have hGA := (HG.out.below (From.out (From.also hF' (Obj.cells #[.int .i64 infW, .slice A1 n1 c1] 51)))).appended hlt (HG1.out.below (From.out (From.also hF' (Obj.cells #[.int .i64 infW, .slice A1 n1 c1] 51))))
              ⟨HG34.out.1, fun j k9 hj hk9 => (leastC 200).last _ _ _ _ (From.out (From.also hF' _)) (HG34.out.2 j k9 hj hk9)⟩ (l := [.inl infW, .inr 0]) rfl hown1 (by rw [HV0.out]; exact hgrow) (by rw [HV0.out]; exact hat)
              (fun j k9 v hj hk9 h9 w9 => by
                rcases flat_all (d := .inl 0) (show j < W.length by rw [HLEN.out]; exact hj) hk9 with e | e <;> rw [e] at h9 ⊢
                · exact h9
                · exact natC_zero (K := 200) h9 _) (fun k9 hk9 w9 => by
                match k9, hk9 with
                | 0, _ => exact ⟨rfl, by unfold infW; omega, by unfold infW; omega⟩
                | 1, _ => exact natC_zero (K := 200) ⟨_, _, _, rfl, h1, hn1⟩ _)
            rw [flat_more hil] at hGA
            have hBA := ((HB.out.trans ((From.out (From.also hF' (Obj.cells #[.int .i64 infW, .slice A1 n1 c1] 51))).mono HB.out.size)).grown hgrow (by have := HB.out.size; have := (From.out hF').size; simp; omega) (fun k9 hk9 => HVB.out k9 hk9)).setCell (p := ⟨W0.heap.size, i, none⟩) (Nat.le_refl _) (.slice (some ⟨g, 0, none⟩) (m + 1) cap)
            clear hgrow hat hown1 hcell1 hfr1 hcw' hlw'
            go_wp2
            go_roundw
            case rel => exact ⟨m + 1, _, by omega, by go_num, hGA, hBA⟩
            case measure => simp [intOf]; omega
        · obtain rfl : k = q := by omega
          have HR : Hid (rowsAt W ((infW, 0) : LW) i k = rowsAt W ((infW, 0) : LW) (i + 1) 0) := by
            have := rowsAt_next (W := W) (z := ((infW, 0) : LW)) (i := i)
            rw [HQ.out] at this
            exact this
          go_wp2
          go_roundw
          case rel => exact ⟨i + 1, vs, by omega, by go_num, by rw [← HR.out]; exact hG, hS1⟩
          case measure => simp [intOf]; omega
    · obtain rfl : i = nW := by omega
      have HR : Hid (rowsAt W ((infW, 0) : LW) i 0 = initR W ((infW, 0) : LW)) := by
        have := rowsAt_end W (((infW, 0) : LW))
        rw [HLEN.out] at this
        exact this
      go_wp2
      go_ret
      exact ⟨_, _, _, vs, rfl, by rw [← HR.out]; exact hG.lower hS.size, below_step hS1 hS⟩

theorem addW_le (x y : LW) : (addW x y).2 ≤ x.2 + y.2 := by
  unfold addW
  split
  · omega
  · split
    · omega
    · split
      · exact Nat.zero_le _
      · exact Nat.le_refl _
theorem mulW_le (x y : LW) : (mulW x y).2 ≤ x.2 * y.2 := by
  unfold mulW
  split
  · exact Nat.zero_le _
  · exact Nat.le_refl _
/-- One step of a sum over least weights. -/
def upL (l s v : LW) : LW := addW l (mulW s v)
theorem upL_can {l s v : LW} (h : CanW l) (h' : CanW s) (h'' : CanW v) : CanW (upL l s v) := addW_can h (mulW_can h' h'')
theorem upL_le (l s v : LW) : (upL l s v).2 ≤ l.2 + s.2 * v.2 := Nat.le_trans (addW_le _ _) (Nat.add_le_add_left (mulW_le _ _) _)
theorem CanW.range {x : LW} (h : CanW x) : 0 ≤ x.1 ∧ x.1 ≤ infW := by
  have hi : infW = 4611686018427387904 := rfl
  unfold CanW at h
  omega
/-- Forward: the rows up to i are whole, row i + 1 has been through j edges. -/
def BL (i j : Nat) (R : List (List LW)) : Prop := ∀ r k, CanW (at2 (infW, 0) R r k) ∧ (at2 (infW, 0) R r k).2 ≤ if r ≤ i then 2 ^ (82 * r) else if r = i + 1 then j * 2 ^ (82 * i + 64) else 0
theorem BL.init {W : List Int} : BL 0 0 (set2 (initR W ((infW, 0) : LW)) 0 0 (0, 1)) := by
  intro r k
  rw [at2_set2]
  split
  · rename_i h
    rw [h.1]
    exact ⟨.inr ⟨by decide, by decide, by decide⟩, by decide⟩
  · rw [at2_init]
    exact ⟨.inl ⟨rfl, rfl⟩, Nat.zero_le _⟩
theorem BL.step {i j : Nat} {R : List (List LW)} (h : BL i j R) {fr tt : Nat} {x : LW} (hc : CanW x) (hx : x.2 < 18446744073709551616) (hi : i ≤ 63) (hj : j < 262144) :
    CanW (at2 (infW, 0) R (i + 1) tt) ∧ CanW (at2 (infW, 0) R i fr) ∧ (upL (at2 (infW, 0) R (i + 1) tt) (at2 (infW, 0) R i fr) x).2 < cap200 ∧
      BL i (j + 1) (set2 R (i + 1) tt (upL (at2 (infW, 0) R (i + 1) tt) (at2 (infW, 0) R i fr) x)) := by
  obtain ⟨c1, h1⟩ := h (i + 1) tt
  rw [if_neg (by omega), if_pos rfl] at h1
  obtain ⟨c2, h2⟩ := h i fr
  rw [if_pos (Nat.le_refl _)] at h2
  have h3 : (at2 (infW, 0) R i fr).2 * x.2 ≤ 2 ^ (82 * i + 64) := by
    rw [← pow64]
    exact Nat.mul_le_mul h2 (by omega)
  have h4 : (at2 (infW, 0) R (i + 1) tt).2 + (at2 (infW, 0) R i fr).2 * x.2 ≤ (j + 1) * 2 ^ (82 * i + 64) := by
    rw [Nat.add_mul, Nat.one_mul]
    exact Nat.add_le_add h1 h3
  have h5 := Nat.le_trans (upL_le (at2 (infW, 0) R (i + 1) tt) (at2 (infW, 0) R i fr) x) h4
  refine ⟨c1, c2, ?_, fun r k => ?_⟩
  · refine Nat.lt_of_le_of_lt (Nat.le_trans h5 (Nat.mul_le_mul_right _ (show j + 1 ≤ 262144 by omega))) ?_
    rw [← pow82]
    exact pow_cap (by omega)
  · rw [at2_set2]
    split
    · rename_i h9
      rw [h9.1, if_neg (by omega), if_pos rfl]
      exact ⟨upL_can c1 c2 hc, h5⟩
    · refine ⟨(h r k).1, Nat.le_trans (h r k).2 ?_⟩
      split
      · exact Nat.le_refl _
      · split
        · exact Nat.mul_le_mul_right _ (by omega)
        · exact Nat.le_refl _
theorem BL.next {i j : Nat} {R : List (List LW)} (h : BL i j R) (hj : j ≤ 262144) : BL (i + 1) 0 R := by
  intro r k
  refine ⟨(h r k).1, Nat.le_trans (h r k).2 ?_⟩
  by_cases h1 : r ≤ i
  · rw [if_pos h1, if_pos (by omega)]
    exact Nat.le_refl _
  · rw [if_neg h1]
    by_cases h2 : r = i + 1
    · subst h2
      rw [if_pos rfl, if_pos (Nat.le_refl _), pow82]
      exact Nat.mul_le_mul_right _ hj
    · rw [if_neg h2]
      exact Nat.zero_le _
/-- The lengths of a row of rows of least weights. -/
theorem RdR.lensW {K : Nat} {d : Int ⊕ Nat} {w : World} {A : Option Addr} {n c : Nat} {R : List (List LW)} (h : RdR (leastC K) d w 2 A n c (flatR R)) : RdLens w A n c (R.map List.length) :=
  ⟨by have := h.len; rw [flatR_length] at this; simpa using this, h.cap, h.max, fun hn => by
    obtain ⟨b, off, e, hlt, hc⟩ := h.cells hn
    refine ⟨b, off, e, hlt, fun i hi => ?_⟩
    obtain ⟨Ai, m, e', h1, h2⟩ := hc i hi
    have h3 : (R.map List.length).getD i 0 = m := by
      have h4 := h2.len
      have h5 := h.len
      rw [flatR_row, flatL_length] at h4
      rw [flatR_length] at h5
      have h6 : (R.getD i []).length = m := by omega
      rw [← h6]
      simp [List.getD_eq_getElem?_getD, show i < R.length by omega]
    rw [h3]
    exact ⟨Ai, e', h1, h2.le63⟩⟩

theorem madeW_len (n : Nat) : (madeCells (Value.agg #[.int .i64 0, .slice none 0 0]).cells (n * 2)).toList.length = (flatL (List.replicate n ((0, 0) : LW))).length := by
  rw [flatL_length, List.length_replicate]
  simp [madeCells]
theorem madeW_get {n k : Nat} (h : k < n * 2) : (madeCells (Value.agg #[.int .i64 0, .slice none 0 0]).cells (n * 2)).toList.getD k undef = if k % 2 = 0 then .int .i64 0 else .slice none 0 0 := by
  have h1 : (Value.agg #[.int .i64 0, .slice none 0 0]).cells = #[.int .i64 0, .slice none 0 0] := by kernel_rfl
  rw [h1, List.getD_eq_getElem?_getD, List.getElem?_eq_getElem (by simpa [madeCells] using h)]
  simp only [madeCells, Array.toList_map, Array.toList_range, List.getElem_map, List.getElem_range, Option.getD_some]
  rcases Nat.mod_two_eq_zero_or_one k with e | e
  · rw [if_pos e]; simp [e]
  · rw [if_neg (by omega)]; simp [e]
theorem flatL_rep_get {n k : Nat} {z : LW} {d : Int ⊕ Nat} (h : k < n * 2) : (flatL (List.replicate n z)).getD k d = if k % 2 = 0 then .inl z.1 else .inr z.2 := by
  rcases Nat.mod_two_eq_zero_or_one k with e | e
  · obtain ⟨q, rfl⟩ : ∃ q, k = q * 2 := ⟨k / 2, by omega⟩
    rw [flatL_get0 (by simp; omega) _ z, if_pos e]
    simp [List.getD_eq_getElem?_getD, show q < n by omega]
  · obtain ⟨q, rfl⟩ : ∃ q, k = q * 2 + 1 := ⟨k / 2, by omega⟩
    rw [flatL_get1 (by simp; omega) _ z, if_neg (by omega)]
    simp [List.getD_eq_getElem?_getD, show q < n by omega]
theorem madeW_rel {K n k : Nat} {d : Int ⊕ Nat} (w : World) (h : k < (flatL (List.replicate n ((0, 0) : LW))).length) :
    (leastC K).rel ((flatL (List.replicate n ((0, 0) : LW))).getD k d) ((madeCells (Value.agg #[.int .i64 0, .slice none 0 0]).cells (n * 2)).toList.getD k undef) w := by
  rw [flatL_length, List.length_replicate] at h
  rw [flatL_rep_get h, madeW_get h]
  by_cases e : k % 2 = 0
  · rw [if_pos e, if_pos e]
    exact ⟨rfl, by decide, by decide⟩
  · rw [if_neg e, if_neg e]
    exact ⟨none, 0, 0, rfl, by rw [show (((0, 0) : LW).2) = 0 from rfl, limbs_zero]; exact Rd.nil _, Nat.zero_le _⟩
/-- Forward over values that a function gives. -/
theorem fwdAll_map {α β γ : Type} (d : α) (up : α → α → γ → α) (f : β → γ) (ee : List (List EdgeT)) (V : List (List β)) (R : List (List α)) (i : Nat) :
    fwdAll d up R i ee (V.map fun l => l.map f) = fwdAll d (fun l s v => up l s (f v)) R i ee V := by
  have hsec : ∀ (es : List EdgeT) (vs : List β) (R : List (List α)) (i : Nat), sec (fwd1 d up i) R es (vs.map f) = sec (fwd1 d (fun l s v => up l s (f v)) i) R es vs := by
    intro es
    induction es with
    | nil => intro vs R i; rfl
    | cons e es ih =>
      intro vs R i
      cases vs with
      | nil => rfl
      | cons v vs => exact ih vs _ i
  induction ee generalizing V R i with
  | nil => rfl
  | cons es ee ih =>
    cases V with
    | nil => rfl
    | cons vs V =>
      show fwdAll d up (sec (fwd1 d up i) R es (vs.map f)) (i + 1) ee (V.map fun l => l.map f) = _
      rw [hsec, ih]
      rfl
/-- One step of the reference's sum: the value is a weight, once. -/
def upLI (l s : LW) (v : Int) : LW := upL l s (v, 1)
end Go.Proofs.Ytjadgomakoaibaa
