/- The walk of the reference's Shape. -/
import Derived.Test.YtjadgomakoaibaaShape
namespace Go.Proofs.Ytjadgomakoaibaa
open Go.RowKit

set_option maxHeartbeats 4000000 in
set_option maxRecDepth 10000 in
theorem rshape_any (w : World) (AW : Option Addr) (nW cW : Nat) (W : List Int) (AE : Option Addr) (nE cE : Nat) (ee : List (List EdgeT)) (hW : RdI w AW nW cW W) (hE : RdEE w AE nE cE ee) :
    Calls Try.prog 34 #[.agg #[.slice AW nW cW, .slice AE nE cE]] w (Makes (.int .i64 (shapeV W ee)) w) := by
  have hlW := hW.len
  have hlE := hE.len
  have hW63 := hW.le63
  have hE63 := hE.le63
  have hS0 := below_alloc w (.cells #[.slice AW nW cW, .slice AE nE cE] 25)
  by_cases h64 : 64 < nE
  · have H0 := hide (shape_misfit (W := W) (ee := ee) (Or.inl (by omega)))
    have hg : (64 : Int) < (nE : Int) := by omega
    clear hlW hlE
    go_enter Try.func34, Try.ntmps34
    go_wp2
    go_ret
    rw [H0.out]
    exact ⟨rfl, hS0⟩
  have hg : ¬ (64 : Int) < (nE : Int) := by omega
  by_cases hne : nW ≠ nE + 1
  · have H0 := hide (shape_misfit (W := W) (ee := ee) (Or.inr (by omega)))
    have hg2 : ((nW : Int) != (nE : Int) + 1) = true := by simp; omega
    clear hlW hlE hne
    go_enter Try.func34, Try.ntmps34
    go_wp2
    go_ret
    rw [H0.out]
    exact ⟨rfl, hS0⟩
  have H0 : Hid (¬ misfit W ee) := by
    unfold Hid misfit; omega
  have hg2 : ((nW : Int) != (nE : Int) + 1) = false := by simp; omega
  have hWE : nW ≤ nE + 1 ∧ nE + 1 ≤ nW := by omega
  obtain ⟨hWE1, hWE2⟩ := hWE
  have HLW := hide hlW
  have HLE := hide hlE
  clear hlW hlE hne h64
  go_enter Try.func34, Try.ntmps34
  go_wp2_with fail
  clear hg2 hg
  go_loop [4] (fun iv => ∃ i : Nat, i ≤ nW ∧ iv = .int .i64 (i : Int) ∧ narrow (W.drop i) = narrow W) (fun iv => nW - (intOf iv).toNat)
  case atStart => exact ⟨0, Nat.zero_le _, rfl, rfl⟩
  case round =>
    obtain ⟨i, hi, rfl, hex⟩ := hrel
    have HX := hide hex
    clear hex
    by_cases hlt : i < nW
    · obtain ⟨b, off, rfl, hb, hcell⟩ := hW.at hlt
      have hbd := hW.bd i
      have HD := hide (drop_getD (0 : Int) (show i < W.length by rw [HLW.out]; exact hlt))
      generalize W.getD i 0 = z at *
      by_cases hz : z < 1
      · have HR : Hid (shapeV W ee = 6) := shape_narrow H0.out (by rw [← HX.out, HD.out, narrow_cons, decide_eq_true hz]; rfl)
        go_wp2
        go_ret
        rw [HR.out]
        exact ⟨rfl, hS0⟩
      · have HN : Hid (narrow (W.drop (i + 1)) = narrow W) := by rw [Hid, ← HX.out, HD.out, narrow_cons, decide_eq_false hz]; rfl
        go_wp2
        go_round
        case rel => exact ⟨i + 1, by omega, by go_num, HN.out⟩
        case measure => simp [intOf]; omega
    · have HNarrow : Hid (narrow W = false) := by rw [Hid, ← HX.out, drop_end (by rw [HLW.out]; omega)]; rfl
      clear HX
      go_wp2_with fail
      go_loop [3, 5] (fun sv iv => ∃ (i : Nat) (s : Int), i ≤ nW ∧ iv = .int .i64 (i : Int) ∧ sv = .int .i64 s ∧ 0 ≤ s ∧ s ≤ 65536 ∧ nodesBad s (W.drop i) = nodesBad 0 W) (fun _ iv => nW - (intOf iv).toNat)
      case atStart => exact ⟨0, 0, Nat.zero_le _, rfl, rfl, by omega, by omega, rfl⟩
      case round =>
        obtain ⟨i, s, hi, rfl, rfl, hs0, hs1, hex⟩ := hrel
        have HX := hide hex
        clear hex
        by_cases hlt : i < nW
        · obtain ⟨b, off, rfl, hb, hcell⟩ := hW.at hlt
          have hbd := hW.bd i
          have hz1 := narrow_getD HNarrow.out (show i < W.length by rw [HLW.out]; exact hlt)
          have HD := hide (drop_getD (0 : Int) (show i < W.length by rw [HLW.out]; exact hlt))
          generalize W.getD i 0 = z at *
          by_cases hz : 65536 - s < z
          · have HR : Hid (shapeV W ee = 8) := shape_nodes H0.out HNarrow.out (by rw [← HX.out, HD.out, nodesBad, decide_eq_true hz]; rfl)
            go_wp2
            go_ret
            rw [HR.out]
            exact ⟨rfl, hS0⟩
          · have HN : Hid (nodesBad (s + z) (W.drop (i + 1)) = nodesBad 0 W) := by rw [Hid, ← HX.out, HD.out, nodesBad, decide_eq_false hz]; rfl
            go_wp2
            go_round
            case rel => exact ⟨i + 1, s + z, by omega, by go_num, by go_num, by omega, by omega, HN.out⟩
            case measure => simp [intOf]; omega
        · have HNodes : Hid (nodesBad 0 W = false) := by rw [Hid, ← HX.out, drop_end (by rw [HLW.out]; omega)]; rfl
          clear HX
          go_wp2_with fail
          go_loop [6, 7] (fun sv iv => ∃ i s : Nat, i ≤ nE ∧ iv = .int .i64 (i : Int) ∧ sv = .int .i64 (s : Int) ∧ s ≤ 262144 ∧ edgesBad s (ee.drop i) = edgesBad 0 ee) (fun _ iv => nE - (intOf iv).toNat)
          case atStart => exact ⟨0, 0, Nat.zero_le _, rfl, rfl, by omega, rfl⟩
          case round =>
            obtain ⟨i, s, hi, rfl, rfl, hs1, hex⟩ := hrel
            have HX := hide hex
            clear hex
            by_cases hlt : i < nE
            · obtain ⟨b, off, rfl, hb, hcells⟩ := hE.cells (by omega)
              obtain ⟨Aj, nj, cj, hcell, hrd⟩ := hcells i hlt
              have hnj : nj ≤ 35184372088832 := by
                rw [← hrd.len]
                refine hE.short _ ?_
                rw [List.getD_eq_getElem?_getD, List.getElem?_eq_getElem (by rw [HLE.out]; exact hlt)]
                exact List.getElem_mem _
              have HL := hide hrd.len
              have HD := hide (drop_getD ([] : List EdgeT) (show i < ee.length by rw [HLE.out]; exact hlt))
              clear hcells hrd
              generalize ee.getD i [] = l at *
              by_cases hz : 262144 < s + nj
              · have HR : Hid (shapeV W ee = 8) := shape_edges H0.out HNarrow.out HNodes.out (by rw [← HX.out, HD.out, edgesBad, HL.out, decide_eq_true hz]; rfl)
                have hz' : (262144 : Int) - (s : Int) < (nj : Int) := by omega
                go_wp2
                go_ret
                rw [HR.out]
                exact ⟨rfl, hS0⟩
              · have HN : Hid (edgesBad (s + nj) (ee.drop (i + 1)) = edgesBad 0 ee) := by rw [Hid, ← HX.out, HD.out, edgesBad, HL.out, decide_eq_false hz]; rfl
                go_wp2
                go_round
                case rel => exact ⟨i + 1, s + nj, by omega, by go_num, by go_num, by omega, HN.out⟩
                case measure => simp [intOf]; omega
            · have HEdges : Hid (edgesBad 0 ee = false) := by rw [Hid, ← HX.out, drop_end (by rw [HLE.out]; omega)]; rfl
              clear HX
              go_wp2_with fail
              go_loopw [8] (fun iv wx => ∃ i : Nat, i ≤ nE ∧ iv = .int .i64 (i : Int) ∧ badFrom W i (ee.drop i) = badFrom W 0 ee ∧ Below (w.heap.size + 1) (World.alloc w (.cells #[.slice AW nW cW, .slice AE nE cE] 25)) wx) (fun iv _ => nE - (intOf iv).toNat)
              case atStart => exact ⟨0, Nat.zero_le _, rfl, rfl, Below.refl _ _⟩
              case round =>
                obtain ⟨i, hi, rfl, hex, hS⟩ := hrel
                have HX := hide hex
                clear hex
                have hSw : Below w.heap.size w wr := hS0.trans (hS.mono (by omega))
                have hbx1 : wr.cell? ⟨w.heap.size, 1, none⟩ = some (.slice AE nE cE) := (hS.cell (p := ⟨w.heap.size, 1, none⟩) (by simp)).trans (by rw [cell_of_row _ _ _ _ _ _ (heap_alloc_new w _)]; rfl)
                by_cases hlt : i < nE
                · obtain ⟨b, off, rfl, hb, hcells⟩ := hE.cells (by omega)
                  obtain ⟨Aj, nj, cj, hcell0, hrd⟩ := hcells i hlt
                  have hcell := (hSw.cell (p := ⟨b, off + i, none⟩) hb).trans hcell0
                  have hnj63 := hrd.le63
                  have HL := hide hrd.len
                  have HD := hide (drop_getD ([] : List EdgeT) (show i < ee.length by rw [HLE.out]; exact hlt))
                  have hrd0 := hrd
                  have HC0 := hide hcell0
                  clear hcells hrd hcell0
                  generalize ee.getD i [] = l at *
                  obtain ⟨wo, rfl⟩ : ∃ wo : World, wo = wr := ⟨_, rfl⟩
                  go_wp2_with fail
                  go_loopw [9, 10] (fun jv _ wx => ∃ j : Nat, j ≤ nj ∧ jv = .int .i64 (j : Int) ∧ badL W i (l.drop j) = badL W i l ∧ Below (w.heap.size + 1) (World.alloc w (.cells #[.slice AW nW cW, .slice (some ⟨b, off, none⟩) nE cE] 25)) wx) (fun jv _ _ => nj - (intOf jv).toNat)
                  case atStart => exact ⟨0, Nat.zero_le _, rfl, rfl, hS⟩
                  case round =>
                    clear hbx1 hcell
                    obtain ⟨j, hj, rfl, hex, hS⟩ := hrel
                    have HY := hide hex
                    clear hex
                    have hSw2 : Below w.heap.size w wr := hS0.trans (hS.mono (by omega))
                    have hbx1 : wr.cell? ⟨w.heap.size, 1, none⟩ = some (.slice (some ⟨b, off, none⟩) nE cE) := (hS.cell (p := ⟨w.heap.size, 1, none⟩) (by simp)).trans (by rw [cell_of_row _ _ _ _ _ _ (heap_alloc_new w _)]; rfl)
                    have hcell := (hSw2.cell (p := ⟨b, off + i, none⟩) hb).trans HC0.out
                    by_cases hltj : j < nj
                    · obtain ⟨b2, off2, rfl, hb2, hcells2⟩ := (hrd0.below hSw2).cells (by omega)
                      obtain ⟨hc0, hc1, hc2⟩ := hcells2 j hltj
                      have HD2 := hide (drop_getD ((0, 0, 0) : EdgeT) (show j < l.length by rw [HL.out]; exact hltj))
                      clear hcells2
                      generalize l.getD j (0, 0, 0) = ed at *
                      obtain ⟨ef, el, et⟩ := ed
                      simp only at hc0 hc1 hc2
                      go_wp2_with fail
                      obtain ⟨bw, offw, rfl, hbw, hcW⟩ := hW.cells (by omega)
                      have hw0 := (hSw2.cell (p := ⟨bw, offw + i, none⟩) hbw).trans (hcW i (by omega))
                      have hw1 := (hSw2.cell (p := ⟨bw, offw + (i + 1), none⟩) hbw).trans (hcW (i + 1) (by omega))
                      have hbx0 : wr.cell? ⟨w.heap.size, 0, none⟩ = some (.slice (some ⟨bw, offw, none⟩) nW cW) := (hS.cell (p := ⟨w.heap.size, 0, none⟩) (by simp)).trans (by rw [cell_of_row _ _ _ _ _ _ (heap_alloc_new w _)]; rfl)
                      have hSw3 := hSw2.alloc hSw2.size (.cells #[Value.int .i64 ef, Value.int .i64 el, Value.int .i64 et] 73)
                      have hS3 := hS.alloc (by have := hS.size; simpa using this) (.cells #[Value.int .i64 ef, Value.int .i64 el, Value.int .i64 et] 73)
                      have hz1 : w.heap.size < wr.heap.size := by
                        have := hS.size
                        simp at this
                        omega
                      have hz2 : bw < wr.heap.size := by omega
                      have HBE : Hid (badE W i (ef, el, et) = (decide (ef < 0) || decide (W.getD i 0 ≤ ef) || decide (et < 0) || decide (W.getD (i + 1) 0 ≤ et))) := rfl
                      have HBad : badE W i (ef, el, et) = true → shapeV W ee = 6 := fun h9 => by
                        have h8 : badL W i l = true := by rw [← HY.out, HD2.out, badL_cons, h9]; rfl
                        exact shape_bad H0.out HNarrow.out HNodes.out HEdges.out (by rw [← HX.out, HD.out, badFrom, h8]; rfl)
                      have HBD := hide HBad
                      clear HBad hcW
                      generalize W.getD i 0 = x at *
                      generalize W.getD (i + 1) 0 = y at *
                      by_cases c1 : ef < 0
                      · have HR : Hid (shapeV W ee = 6) := HBD.out (by rw [HBE.out, decide_eq_true c1]; rfl)
                        have hd1 : decide (ef < 0) = true := decide_eq_true c1
                        go_quiet (fail)
                        clear hd1
                        go_wp2
                        go_ret
                        rw [HR.out]
                        exact ⟨rfl, below_drewN hSw3 _⟩
                      have hd1 : decide (ef < 0) = false := decide_eq_false c1
                      by_cases c2 : x ≤ ef
                      · have HR : Hid (shapeV W ee = 6) := HBD.out (by rw [HBE.out, decide_eq_true c2]; simp)
                        have hd2 : decide (x ≤ ef) = true := decide_eq_true c2
                        go_quiet (fail)
                        clear hd1 hd2
                        go_wp2
                        go_ret
                        rw [HR.out]
                        exact ⟨rfl, below_drewN hSw3 _⟩
                      have hd2 : decide (x ≤ ef) = false := decide_eq_false c2
                      by_cases c3 : et < 0
                      · have HR : Hid (shapeV W ee = 6) := HBD.out (by rw [HBE.out, decide_eq_true c3]; simp)
                        have hd3 : decide (et < 0) = true := decide_eq_true c3
                        go_quiet (fail)
                        clear hd1 hd2 hd3
                        go_wp2
                        go_ret
                        rw [HR.out]
                        exact ⟨rfl, below_drewN hSw3 _⟩
                      have hd3 : decide (et < 0) = false := decide_eq_false c3
                      by_cases c4 : y ≤ et
                      · have HR : Hid (shapeV W ee = 6) := HBD.out (by rw [HBE.out, decide_eq_true c4]; simp)
                        have hd4 : decide (y ≤ et) = true := decide_eq_true c4
                        go_quiet (fail)
                        clear hd1 hd2 hd3 hd4
                        go_wp2
                        go_ret
                        rw [HR.out]
                        exact ⟨rfl, below_drewN hSw3 _⟩
                      · have hd4 : decide (y ≤ et) = false := decide_eq_false c4
                        have HN : Hid (badL W i (l.drop (j + 1)) = badL W i l) := by
                          rw [Hid, ← HY.out, HD2.out, badL_cons, HBE.out, hd1, hd2, hd3, hd4]; rfl
                        go_quiet (fail)
                        clear hd1 hd2 hd3 hd4
                        go_wp2
                        go_roundw
                        case rel => exact ⟨j + 1, by omega, by go_num, HN.out, below_drewN hS3 _⟩
                        case measure => simp [intOf]; omega
                    · have HN : Hid (badFrom W (i + 1) (ee.drop (i + 1)) = badFrom W 0 ee) := by
                        have h9 : badL W i l = false := by rw [← HY.out, drop_end (by rw [HL.out]; omega)]; rfl
                        rw [Hid, ← HX.out, HD.out, badFrom, h9]; rfl
                      go_wp2
                      go_roundw
                      case rel => exact ⟨i + 1, by omega, by go_num, HN.out, hS⟩
                      case measure => simp [intOf]; omega
                · have HBad : Hid (badFrom W 0 ee = false) := by rw [Hid, ← HX.out, drop_end (by rw [HLE.out]; omega)]; rfl
                  have HR : Hid (shapeV W ee = 0) := shape_ok H0.out HNarrow.out HNodes.out HEdges.out HBad.out
                  go_wp2
                  go_ret
                  rw [HR.out]
                  exact ⟨rfl, hSw⟩
end Go.Proofs.Ytjadgomakoaibaa
