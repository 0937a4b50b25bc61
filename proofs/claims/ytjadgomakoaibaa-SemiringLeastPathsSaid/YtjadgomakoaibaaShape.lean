/- The walks of the two functions that look at a layered graph's shape. -/
import Derived.Test.YtjadgomakoaibaaSemi
import Derived.BigQuiet
namespace Go.Proofs.Ytjadgomakoaibaa
open Go.RowKit

abbrev EdgeT := Int × Int × Int
/-- The slice value '.slice A n c' reads as the ints zs. -/
structure RdI (w : World) (A : Option Addr) (n c : Nat) (zs : List Int) : Prop where
  len : zs.length = n
  cap : n ≤ c
  max : c ≤ maxLen
  wide : ∀ z ∈ zs, -9223372036854775808 ≤ z ∧ z ≤ 9223372036854775807
  cells : 0 < n → ∃ b off, A = some ⟨b, off, none⟩ ∧ b < w.heap.size ∧ ∀ j, j < n → w.cell? ⟨b, off + j, none⟩ = some (.int .i64 (zs.getD j 0))
/-- .. as the edges es: three cells an edge. -/
structure RdE (w : World) (A : Option Addr) (n c : Nat) (es : List EdgeT) : Prop where
  len : es.length = n
  cap : n ≤ c
  max : c ≤ maxLen
  cells : 0 < n → ∃ b off, A = some ⟨b, off, none⟩ ∧ b < w.heap.size ∧ ∀ j, j < n → w.cell? ⟨b, off + j * 3, none⟩ = some (.int .i64 (es.getD j (0, 0, 0)).1) ∧
    w.cell? ⟨b, off + j * 3 + 1, none⟩ = some (.int .i64 (es.getD j (0, 0, 0)).2.1) ∧ w.cell? ⟨b, off + j * 3 + 2, none⟩ = some (.int .i64 (es.getD j (0, 0, 0)).2.2)
/-- .. as lists of edges. -/
structure RdEE (w : World) (A : Option Addr) (n c : Nat) (ee : List (List EdgeT)) : Prop where
  len : ee.length = n
  cap : n ≤ c
  max : c ≤ maxLen
  short : ∀ l ∈ ee, l.length ≤ 35184372088832
  cells : 0 < n → ∃ b off, A = some ⟨b, off, none⟩ ∧ b < w.heap.size ∧ ∀ j, j < n → ∃ Aj nj cj, w.cell? ⟨b, off + j, none⟩ = some (.slice Aj nj cj) ∧ RdE w Aj nj cj (ee.getD j [])
section
variable {w w' : World} {A : Option Addr} {n c : Nat}
theorem RdI.below {zs : List Int} (h : RdI w A n c zs) (hb : Below w.heap.size w w') : RdI w' A n c zs :=
  ⟨h.len, h.cap, h.max, h.wide, fun hn => by
    obtain ⟨b, off, e, hlt, hc⟩ := h.cells hn
    exact ⟨b, off, e, Nat.lt_of_lt_of_le hlt hb.size, fun j hj => (hb.cell (p := ⟨b, off + j, none⟩) hlt).trans (hc j hj)⟩⟩
theorem RdE.below {es : List EdgeT} (h : RdE w A n c es) (hb : Below w.heap.size w w') : RdE w' A n c es :=
  ⟨h.len, h.cap, h.max, fun hn => by
    obtain ⟨b, off, e, hlt, hc⟩ := h.cells hn
    refine ⟨b, off, e, Nat.lt_of_lt_of_le hlt hb.size, fun j hj => ?_⟩
    obtain ⟨h1, h2, h3⟩ := hc j hj
    exact ⟨(hb.cell (p := ⟨b, off + j * 3, none⟩) hlt).trans h1, (hb.cell (p := ⟨b, off + j * 3 + 1, none⟩) hlt).trans h2, (hb.cell (p := ⟨b, off + j * 3 + 2, none⟩) hlt).trans h3⟩⟩
theorem RdEE.below {ee : List (List EdgeT)} (h : RdEE w A n c ee) (hb : Below w.heap.size w w') : RdEE w' A n c ee :=
  ⟨h.len, h.cap, h.max, h.short, fun hn => by
    obtain ⟨b, off, e, hlt, hc⟩ := h.cells hn
    refine ⟨b, off, e, Nat.lt_of_lt_of_le hlt hb.size, fun j hj => ?_⟩
    obtain ⟨Aj, nj, cj, h1, h2⟩ := hc j hj
    exact ⟨Aj, nj, cj, (hb.cell (p := ⟨b, off + j, none⟩) hlt).trans h1, h2.below hb⟩⟩
theorem RdI.le63 {zs : List Int} (h : RdI w A n c zs) : n ≤ 9223372036854775807 := by
  have := h.cap; have := h.max; unfold maxLen at this; omega
theorem RdEE.le63 {ee : List (List EdgeT)} (h : RdEE w A n c ee) : n ≤ 9223372036854775807 := by
  have := h.cap; have := h.max; unfold maxLen at this; omega
theorem RdE.le63 {es : List EdgeT} (h : RdE w A n c es) : n ≤ 9223372036854775807 := by
  have := h.cap; have := h.max; unfold maxLen at this; omega
theorem RdI.at {zs : List Int} (h : RdI w A n c zs) {k : Nat} (hk : k < n) : ∃ b off, A = some ⟨b, off, none⟩ ∧ b < w.heap.size ∧ w.cell? ⟨b, off + k, none⟩ = some (.int .i64 (zs.getD k 0)) := by
  obtain ⟨b, off, e, hb, hc⟩ := h.cells (by omega)
  exact ⟨b, off, e, hb, hc k hk⟩
theorem RdI.cellAt {zs : List Int} {b off : Nat} (h : RdI w (some ⟨b, off, none⟩) n c zs) {k : Nat} (hk : k < n) : w.cell? ⟨b, off + k, none⟩ = some (.int .i64 (zs.getD k 0)) := by
  obtain ⟨b', off', e, _, hc⟩ := h.cells (by omega)
  simp only [Option.some.injEq, Addr.mk.injEq, and_true] at e
  obtain ⟨rfl, rfl⟩ := e
  exact hc k hk
theorem RdI.bd {zs : List Int} (h : RdI w A n c zs) (k : Nat) : -9223372036854775808 ≤ zs.getD k 0 ∧ zs.getD k 0 ≤ 9223372036854775807 := by
  rw [List.getD_eq_getElem?_getD]
  rcases Nat.lt_or_ge k zs.length with h1 | h1
  · rw [List.getElem?_eq_getElem h1]; exact h.wide _ (List.getElem_mem h1)
  · rw [List.getElem?_eq_none h1]; decide
end

/-! ### what the two compute -/
def narrow (W : List Int) : Bool := W.any fun z => decide (z < 1)
def nodesBad : Int → List Int → Bool
  | _, [] => false
  | s, z :: l => decide (65536 - s < z) || nodesBad (s + z) l
def edgesBad : Nat → List (List EdgeT) → Bool
  | _, [] => false
  | s, l :: ll => decide (262144 < s + l.length) || edgesBad (s + l.length) ll
def badE (W : List Int) (i : Nat) (e : EdgeT) : Bool := decide (e.1 < 0) || decide (W.getD i 0 ≤ e.1) || decide (e.2.2 < 0) || decide (W.getD (i + 1) 0 ≤ e.2.2)
def badL (W : List Int) (i : Nat) (l : List EdgeT) : Bool := l.any (badE W i)
def badFrom (W : List Int) : Nat → List (List EdgeT) → Bool
  | _, [] => false
  | i, l :: ll => badL W i l || badFrom W (i + 1) ll
def misfit (W : List Int) (ee : List (List EdgeT)) : Prop := 64 < ee.length ∨ W.length ≠ ee.length + 1
instance (W : List Int) (ee : List (List EdgeT)) : Decidable (misfit W ee) := by unfold misfit; infer_instance
def shapeV (W : List Int) (ee : List (List EdgeT)) : Int :=
  if misfit W ee then 3 else if narrow W = true then 6 else if nodesBad 0 W = true then 8 else if edgesBad 0 ee = true then 8 else if badFrom W 0 ee = true then 6 else 0

theorem drop_getD {α : Type} {l : List α} {i : Nat} (d : α) (h : i < l.length) : l.drop i = l.getD i d :: l.drop (i + 1) := by
  rw [List.drop_eq_getElem_cons h, List.getD_eq_getElem?_getD, List.getElem?_eq_getElem h]; rfl
theorem drop_end {α : Type} {l : List α} {i : Nat} (h : l.length ≤ i) : l.drop i = [] := List.drop_eq_nil_of_le h
section
variable {W : List Int} {ee : List (List EdgeT)}
theorem shape_misfit (h : misfit W ee) : shapeV W ee = 3 := if_pos h
theorem shape_narrow (h : ¬ misfit W ee) (h1 : narrow W = true) : shapeV W ee = 6 := by unfold shapeV; rw [if_neg h, if_pos h1]
theorem shape_nodes (h : ¬ misfit W ee) (h1 : narrow W = false) (h2 : nodesBad 0 W = true) : shapeV W ee = 8 := by unfold shapeV; rw [if_neg h, if_neg (by rw [h1]; decide), if_pos h2]
theorem shape_edges (h : ¬ misfit W ee) (h1 : narrow W = false) (h2 : nodesBad 0 W = false) (h3 : edgesBad 0 ee = true) : shapeV W ee = 8 := by
  unfold shapeV; rw [if_neg h, if_neg (by rw [h1]; decide), if_neg (by rw [h2]; decide), if_pos h3]
theorem shape_bad (h : ¬ misfit W ee) (h1 : narrow W = false) (h2 : nodesBad 0 W = false) (h3 : edgesBad 0 ee = false) (h4 : badFrom W 0 ee = true) : shapeV W ee = 6 := by
  unfold shapeV; rw [if_neg h, if_neg (by rw [h1]; decide), if_neg (by rw [h2]; decide), if_neg (by rw [h3]; decide), if_pos h4]
theorem shape_ok (h : ¬ misfit W ee) (h1 : narrow W = false) (h2 : nodesBad 0 W = false) (h3 : edgesBad 0 ee = false) (h4 : badFrom W 0 ee = false) : shapeV W ee = 0 := by
  unfold shapeV; rw [if_neg h, if_neg (by rw [h1]; decide), if_neg (by rw [h2]; decide), if_neg (by rw [h3]; decide), if_neg (by rw [h4]; decide)]
theorem shape_nil : shapeV [] [] = 3 := by decide
theorem narrow_cons (z : Int) (l : List Int) : narrow (z :: l) = (decide (z < 1) || narrow l) := by simp [narrow]
theorem narrow_getD {i : Nat} (h : narrow W = false) (hi : i < W.length) : 1 ≤ W.getD i 0 := by
  unfold narrow at h
  rw [List.any_eq_false] at h
  have := h (W.getD i 0) (by rw [List.getD_eq_getElem?_getD, List.getElem?_eq_getElem hi]; exact List.getElem_mem hi)
  simp only [decide_eq_true_eq] at this
  omega
theorem badL_cons (i : Nat) (e : EdgeT) (l : List EdgeT) : badL W i (e :: l) = (badE W i e || badL W i l) := by simp [badL]
end

set_option maxHeartbeats 4000000 in
set_option maxRecDepth 10000 in
theorem shape_any (w : World) (AW : Option Addr) (nW cW : Nat) (W : List Int) (AE : Option Addr) (nE cE : Nat) (ee : List (List EdgeT)) (hW : RdI w AW nW cW W) (hE : RdEE w AE nE cE ee) :
    Calls Try.prog 48 #[.agg #[.slice AW nW cW, .slice AE nE cE]] w (Makes (.int .i64 (shapeV W ee)) w) := by
  have hlW := hW.len
  have hlE := hE.len
  have hW63 := hW.le63
  have hE63 := hE.le63
  have hS0 := below_alloc w (.cells #[.slice AW nW cW, .slice AE nE cE] 25)
  by_cases h64 : 64 < nE
  · have H0 := hide (shape_misfit (W := W) (ee := ee) (Or.inl (by omega)))
    have hg : (64 : Int) < (nE : Int) := by omega
    clear hlW hlE
    go_enter Try.func48, Try.ntmps48
    go_wp2
    go_ret
    rw [H0.out]
    exact ⟨rfl, hS0⟩
  have hg : ¬ (64 : Int) < (nE : Int) := by omega
  by_cases hne : nW ≠ nE + 1
  · have H0 := hide (shape_misfit (W := W) (ee := ee) (Or.inr (by omega)))
    have hg2 : ((nW : Int) != (nE : Int) + 1) = true := by simp; omega
    clear hlW hlE hne
    go_enter Try.func48, Try.ntmps48
    go_wp2
    go_ret
    rw [H0.out]
    exact ⟨rfl, hS0⟩
  have H0 : Hid (¬ misfit W ee) := by
    unfold Hid misfit; omega
  have hg2 : ((nW : Int) != (nE : Int) + 1) = false := by simp; omega
  have hWE : nW ≤ nE + 1 ∧ nE + 1 ≤ nW := by omega
  obtain ⟨hWE1, hWE2⟩ := hWE
  have HLW := hide hlW
  have HLE := hide hlE
  clear hlW hlE hne h64
  go_enter Try.func48, Try.ntmps48
  go_wp2_with fail
  clear hg2 hg
  go_loop [4, 32] (fun _ iv => ∃ i : Nat, i ≤ nW ∧ iv = .int .i64 (i : Int) ∧ narrow (W.drop i) = narrow W) (fun _ iv => nW - (intOf iv).toNat)
  case atStart => exact ⟨0, Nat.zero_le _, rfl, rfl⟩
  case round =>
    obtain ⟨i, hi, rfl, hex⟩ := hrel
    have HX := hide hex
    clear hex
    by_cases hlt : i < nW
    · obtain ⟨b, off, rfl, hb, hcell⟩ := hW.at hlt
      have hbd := hW.bd i
      have HD := hide (drop_getD (0 : Int) (show i < W.length by rw [HLW.out]; exact hlt))
      generalize W.getD i 0 = z at *
      by_cases hz : z < 1
      · have HR : Hid (shapeV W ee = 6) := shape_narrow H0.out (by rw [← HX.out, HD.out, narrow_cons, decide_eq_true hz]; rfl)
        go_wp2
        go_ret
        rw [HR.out]
        exact ⟨rfl, hS0⟩
      · have HN : Hid (narrow (W.drop (i + 1)) = narrow W) := by rw [Hid, ← HX.out, HD.out, narrow_cons, decide_eq_false hz]; rfl
        go_wp2
        go_round
        case rel => exact ⟨i + 1, by omega, by go_num, HN.out⟩
        case measure => simp [intOf]; omega
    · have HNarrow : Hid (narrow W = false) := by rw [Hid, ← HX.out, drop_end (by rw [HLW.out]; omega)]; rfl
      clear HX
      go_wp2_with fail
      go_loop [5, 8, 42] (fun sv _ iv => ∃ (i : Nat) (s : Int), i ≤ nW ∧ iv = .int .i64 (i : Int) ∧ sv = .int .i64 s ∧ 0 ≤ s ∧ s ≤ 65536 ∧ nodesBad s (W.drop i) = nodesBad 0 W) (fun _ _ iv => nW - (intOf iv).toNat)
      case atStart => exact ⟨0, 0, Nat.zero_le _, rfl, rfl, by omega, by omega, rfl⟩
      case round =>
        obtain ⟨i, s, hi, rfl, rfl, hs0, hs1, hex⟩ := hrel
        have HX := hide hex
        clear hex
        by_cases hlt : i < nW
        · obtain ⟨b, off, rfl, hb, hcell⟩ := hW.at hlt
          have hbd := hW.bd i
          have hz1 := narrow_getD HNarrow.out (show i < W.length by rw [HLW.out]; exact hlt)
          have HD := hide (drop_getD (0 : Int) (show i < W.length by rw [HLW.out]; exact hlt))
          generalize W.getD i 0 = z at *
          by_cases hz : 65536 - s < z
          · have HR : Hid (shapeV W ee = 8) := shape_nodes H0.out HNarrow.out (by rw [← HX.out, HD.out, nodesBad, decide_eq_true hz]; rfl)
            go_wp2
            go_ret
            rw [HR.out]
            exact ⟨rfl, hS0⟩
          · have HN : Hid (nodesBad (s + z) (W.drop (i + 1)) = nodesBad 0 W) := by rw [Hid, ← HX.out, HD.out, nodesBad, decide_eq_false hz]; rfl
            go_wp2
            go_round
            case rel => exact ⟨i + 1, s + z, by omega, by go_num, by go_num, by omega, by omega, HN.out⟩
            case measure => simp [intOf]; omega
        · have HNodes : Hid (nodesBad 0 W = false) := by rw [Hid, ← HX.out, drop_end (by rw [HLW.out]; omega)]; rfl
          clear HX
          go_wp2_with fail
          go_loop [6, 10, 57] (fun sv _ iv => ∃ i s : Nat, i ≤ nE ∧ iv = .int .i64 (i : Int) ∧ sv = .int .i64 (s : Int) ∧ s ≤ 262144 ∧ edgesBad s (ee.drop i) = edgesBad 0 ee) (fun _ _ iv => nE - (intOf iv).toNat)
          case atStart => exact ⟨0, 0, Nat.zero_le _, rfl, rfl, by omega, rfl⟩
          case round =>
            obtain ⟨i, s, hi, rfl, rfl, hs1, hex⟩ := hrel
            have HX := hide hex
            clear hex
            by_cases hlt : i < nE
            · obtain ⟨b, off, rfl, hb, hcells⟩ := hE.cells (by omega)
              obtain ⟨Aj, nj, cj, hcell, hrd⟩ := hcells i hlt
              have hnj : nj ≤ 35184372088832 := by
                rw [← hrd.len]
                refine hE.short _ ?_
                rw [List.getD_eq_getElem?_getD, List.getElem?_eq_getElem (by rw [HLE.out]; exact hlt)]
                exact List.getElem_mem _
              have HL := hide hrd.len
              have HD := hide (drop_getD ([] : List EdgeT) (show i < ee.length by rw [HLE.out]; exact hlt))
              clear hcells hrd
              generalize ee.getD i [] = l at *
              by_cases hz : 262144 < s + nj
              · have HR : Hid (shapeV W ee = 8) := shape_edges H0.out HNarrow.out HNodes.out (by rw [← HX.out, HD.out, edgesBad, HL.out, decide_eq_true hz]; rfl)
                have hz' : (262144 : Int) < (s : Int) + (nj : Int) := by omega
                go_wp2
                go_ret
                rw [HR.out]
                exact ⟨rfl, hS0⟩
              · have HN : Hid (edgesBad (s + nj) (ee.drop (i + 1)) = edgesBad 0 ee) := by rw [Hid, ← HX.out, HD.out, edgesBad, HL.out, decide_eq_false hz]; rfl
                go_wp2
                go_round
                case rel => exact ⟨i + 1, s + nj, by omega, by go_num, by go_num, by omega, HN.out⟩
                case measure => simp [intOf]; omega
            · have HEdges : Hid (edgesBad 0 ee = false) := by rw [Hid, ← HX.out, drop_end (by rw [HLE.out]; omega)]; rfl
              clear HX
              go_wp2_with fail
              go_loopw [11, 12, 71] (fun _ _ iv wx => ∃ i : Nat, i ≤ nE ∧ iv = .int .i64 (i : Int) ∧ badFrom W i (ee.drop i) = badFrom W 0 ee ∧ Below (w.heap.size + 1) (World.alloc w (.cells #[.slice AW nW cW, .slice AE nE cE] 25)) wx) (fun _ _ iv _ => nE - (intOf iv).toNat)
              case atStart => exact ⟨0, Nat.zero_le _, rfl, rfl, Below.refl _ _⟩
              case round =>
                obtain ⟨i, hi, rfl, hex, hS⟩ := hrel
                have HX := hide hex
                clear hex
                have hSw : Below w.heap.size w wr := hS0.trans (hS.mono (by omega))
                by_cases hlt : i < nE
                · obtain ⟨b, off, rfl, hb, hcells⟩ := hE.cells (by omega)
                  obtain ⟨Aj, nj, cj, hcell0, hrd⟩ := hcells i hlt
                  have hcell := (hSw.cell (p := ⟨b, off + i, none⟩) hb).trans hcell0
                  have hnj63 := hrd.le63
                  have HL := hide hrd.len
                  have HD := hide (drop_getD ([] : List EdgeT) (show i < ee.length by rw [HLE.out]; exact hlt))
                  have hrd0 := hrd
                  clear hcells hrd hcell0
                  generalize ee.getD i [] = l at *
                  obtain ⟨wo, rfl⟩ : ∃ wo : World, wo = wr := ⟨_, rfl⟩
                  go_wp2_with fail
                  go_loopw [14, 78] (fun _ jv wx => ∃ j : Nat, j ≤ nj ∧ jv = .int .i64 (j : Int) ∧ badL W i (l.drop j) = badL W i l ∧ Below (w.heap.size + 1) (World.alloc w (.cells #[.slice AW nW cW, .slice (some ⟨b, off, none⟩) nE cE] 25)) wx) (fun _ jv _ => nj - (intOf jv).toNat)
                  case atStart => exact ⟨0, Nat.zero_le _, rfl, rfl, hS⟩
                  case round =>
                    obtain ⟨j, hj, rfl, hex, hS⟩ := hrel
                    have HY := hide hex
                    clear hex
                    by_cases hltj : j < nj
                    · have hSw2 : Below w.heap.size w wr := hS0.trans (hS.mono (by omega))
                      obtain ⟨b2, off2, rfl, hb2, hcells2⟩ := (hrd0.below hSw2).cells (by omega)
                      obtain ⟨hc0, hc1, hc2⟩ := hcells2 j hltj
                      have HD2 := hide (drop_getD ((0, 0, 0) : EdgeT) (show j < l.length by rw [HL.out]; exact hltj))
                      clear hcells2
                      generalize l.getD j (0, 0, 0) = ed at *
                      obtain ⟨ef, el, et⟩ := ed
                      simp only at hc0 hc1 hc2
                      go_wp2_with fail
                      obtain ⟨bw, offw, rfl, hbw, hcW⟩ := hW.cells (by omega)
                      have hw0 := (hSw2.cell (p := ⟨bw, offw + i, none⟩) hbw).trans (hcW i (by omega))
                      have hw1 := (hSw2.cell (p := ⟨bw, offw + (i + 1), none⟩) hbw).trans (hcW (i + 1) (by omega))
                      have hbx0 : wr.cell? ⟨w.heap.size, 0, none⟩ = some (.slice (some ⟨bw, offw, none⟩) nW cW) := (hS.cell (p := ⟨w.heap.size, 0, none⟩) (by simp)).trans (by rw [cell_of_row _ _ _ _ _ _ (heap_alloc_new w _)]; rfl)
                      have hSw3 := hSw2.alloc hSw2.size (.cells #[Value.int .i64 ef, Value.int .i64 el, Value.int .i64 et] 73)
                      have hS3 := hS.alloc (by have := hS.size; simpa using this) (.cells #[Value.int .i64 ef, Value.int .i64 el, Value.int .i64 et] 73)
                      have hz1 : w.heap.size < wr.heap.size := by
                        have := hS.size
                        simp at this
                        omega
                      have hz2 : bw < wr.heap.size := by omega
                      have HBE : Hid (badE W i (ef, el, et) = (decide (ef < 0) || decide (W.getD i 0 ≤ ef) || decide (et < 0) || decide (W.getD (i + 1) 0 ≤ et))) := rfl
                      have HBad : badE W i (ef, el, et) = true → shapeV W ee = 6 := fun h9 => by
                        have h8 : badL W i l = true := by rw [← HY.out, HD2.out, badL_cons, h9]; rfl
                        exact shape_bad H0.out HNarrow.out HNodes.out HEdges.out (by rw [← HX.out, HD.out, badFrom, h8]; rfl)
                      have HBD := hide HBad
                      clear HBad hcW
                      generalize W.getD i 0 = x at *
                      generalize W.getD (i + 1) 0 = y at *
                      by_cases c1 : ef < 0
                      · have HR : Hid (shapeV W ee = 6) := HBD.out (by rw [HBE.out, decide_eq_true c1]; rfl)
                        have hd1 : decide (ef < 0) = true := decide_eq_true c1
                        go_quiet (fail)
                        clear hd1
                        go_wp2
                        go_ret
                        rw [HR.out]
                        exact ⟨rfl, below_drewN hSw3 _⟩
                      have hd1 : decide (ef < 0) = false := decide_eq_false c1
                      by_cases c2 : x ≤ ef
                      · have HR : Hid (shapeV W ee = 6) := HBD.out (by rw [HBE.out, decide_eq_true c2]; simp)
                        have hd2 : decide (x ≤ ef) = true := decide_eq_true c2
                        go_quiet (fail)
                        clear hd1 hd2
                        go_wp2
                        go_ret
                        rw [HR.out]
                        exact ⟨rfl, below_drewN hSw3 _⟩
                      have hd2 : decide (x ≤ ef) = false := decide_eq_false c2
                      by_cases c3 : et < 0
                      · have HR : Hid (shapeV W ee = 6) := HBD.out (by rw [HBE.out, decide_eq_true c3]; simp)
                        have hd3 : decide (et < 0) = true := decide_eq_true c3
                        go_quiet (fail)
                        clear hd1 hd2 hd3
                        go_wp2
                        go_ret
                        rw [HR.out]
                        exact ⟨rfl, below_drewN hSw3 _⟩
                      have hd3 : decide (et < 0) = false := decide_eq_false c3
                      by_cases c4 : y ≤ et
                      · have HR : Hid (shapeV W ee = 6) := HBD.out (by rw [HBE.out, decide_eq_true c4]; simp)
                        have hd4 : decide (y ≤ et) = true := decide_eq_true c4
                        go_quiet (fail)
                        clear hd1 hd2 hd3 hd4
                        go_wp2
                        go_ret
                        rw [HR.out]
                        exact ⟨rfl, below_drewN hSw3 _⟩
                      · have hd4 : decide (y ≤ et) = false := decide_eq_false c4
                        have HN : Hid (badL W i (l.drop (j + 1)) = badL W i l) := by
                          rw [Hid, ← HY.out, HD2.out, badL_cons, HBE.out, hd1, hd2, hd3, hd4]; rfl
                        go_quiet (fail)
                        clear hd1 hd2 hd3 hd4
                        go_wp2
                        go_roundw
                        case rel => exact ⟨j + 1, by omega, by go_num, HN.out, below_drewN hS3 _⟩
                        case measure => simp [intOf]; omega
                    · have HN : Hid (badFrom W (i + 1) (ee.drop (i + 1)) = badFrom W 0 ee) := by
                        have h9 : badL W i l = false := by rw [← HY.out, drop_end (by rw [HL.out]; omega)]; rfl
                        rw [Hid, ← HX.out, HD.out, badFrom, h9]; rfl
                      go_wp2
                      go_roundw
                      case rel => exact ⟨i + 1, by omega, by go_num, HN.out, hS⟩
                      case measure => simp [intOf]; omega
                · have HBad : Hid (badFrom W 0 ee = false) := by rw [Hid, ← HX.out, drop_end (by rw [HLE.out]; omega)]; rfl
                  have HR : Hid (shapeV W ee = 0) := shape_ok H0.out HNarrow.out HNodes.out HEdges.out HBad.out
                  go_wp2
                  go_ret
                  rw [HR.out]
                  exact ⟨rfl, hSw⟩
end Go.Proofs.Ytjadgomakoaibaa
