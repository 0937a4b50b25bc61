/- The nine digits of a group: the walk of nine. -/
import Derived.Test.YtfggecdgnidhfaaDoorDecM
import Derived.Test.YtfggecdgnidhfaaDoorForms
import Derived.Laws.IdiomStrings
namespace Go.Proofs.YtfggecdgnidhfaaDoor
open Go.RowKit
/-- The array of nine while it is filled: k places are still nought. -/
def nineC (k X : Nat) : List Value := List.replicate k (.int .u8 0) ++ (dgs (9 - k) X).map fun b => .int .u8 (b.toNat : Int)
theorem nineC_len {k : Nat} (h : k ≤ 9) (X : Nat) : (nineC k X).length = 9 := by
  simp [nineC, dgs_len]; omega
theorem nineC_set {k : Nat} (h : k + 1 ≤ 9) (X : Nat) : (nineC (k + 1) X).set k (.int .u8 ((48 + X / 10 ^ (8 - k) % 10 : Nat) : Int)) = nineC k X := by
  unfold nineC
  rw [show 9 - (k + 1) = 8 - k by omega, show 9 - k = (8 - k) + 1 by omega, dgs_top, List.map_cons, dgt_toNat]
  have h1 : List.replicate (k + 1) (Value.int .u8 0) = List.replicate k (Value.int .u8 0) ++ [Value.int .u8 0] := List.replicate_succ'
  rw [h1, List.append_assoc, List.set_append_right _ _ (by simp)]
  simp
set_option maxHeartbeats 4000000 in
set_option maxRecDepth 10000 in
theorem nine_any (X : Nat) (hX : X < 1000000000) (w : World) :
    Calls Tryd.prog 21 #[.int .u32 (X : Int)] w (Makes (.string ⟨(dgs 9 X).toArray⟩) w) := by
  go_enter Tryd.func21, Tryd.ntmps21
  go_wp2_with fail
  go_loopw [0, 4] (fun xv iv wr => ∃ k : Nat, k ≤ 9 ∧ iv = .int .i64 ((k : Int) - 1) ∧ xv = .int .u32 ((X / 10 ^ (9 - k) : Nat) : Int) ∧ wr.heap[w.heap.size]? = some (.cells (nineC k X).toArray 64) ∧ Below w.heap.size w wr) (fun _ iv _ => (intOf iv + 1).toNat)
  case atStart => exact ⟨9, Nat.le_refl _, rfl, by simp, by rw [heap_alloc_new]; rfl, below_alloc w _⟩
  case round =>
    obtain ⟨k, hk, rfl, rfl, hb, hS⟩ := hrel
    have HB := hide hb
    clear hb
    cases k with
    | zero =>
      have hc : ∀ j (hj : j < (dgs 9 X).length), wr.cell? ((⟨w.heap.size, 0, none⟩ : Addr).add j) = some (.int .u8 ((dgs 9 X)[j].toNat : Int)) := by
        intro j hj
        rw [Addr.add_lit, Nat.zero_add, cell_of_row _ _ _ _ _ _ HB.out]
        simp [nineC, hj]
      have hback := run_convert_bytes_back (P := Tryd.prog) wr 44 9 5 ⟨w.heap.size, 0, none⟩ 9 (dgs 9 X) Tryd.underlying44 Tryd.underlying5 Tryd.underlying9 hc
      rw [dgs_len] at hback
      clear hc
      go_wp2
      go_ret
      exact ⟨rfl, hS⟩
    | succ k =>
      have hik : ((k + 1 : Nat) : Int) - 1 = (k : Int) := by omega
      rw [hik]
      have hY : X / 10 ^ (9 - (k + 1)) < 4294967296 := Nat.lt_of_le_of_lt (Nat.div_le_self _ _) (by omega)
      have HST := hide (nineC_set hk X)
      have hnx : X / 10 ^ (9 - (k + 1)) / 10 = X / 10 ^ (9 - k) := by
        rw [Nat.div_div_eq_div_mul, show 10 ^ (9 - (k + 1)) * 10 = 10 ^ (9 - k) by rw [← Nat.pow_succ]; congr 1; omega]
      have HNX := hide hnx
      rw [show 8 - k = 9 - (k + 1) by omega] at HST
      clear hnx hik
      generalize X / 10 ^ (9 - (k + 1)) = Y at *
      have hcell : wr.cell? ⟨w.heap.size, k, none⟩ = some (.int .u8 0) := by
        rw [cell_of_row _ _ _ _ _ _ HB.out]
        have h9 : (nineC (k + 1) X)[k]? = some (.int .u8 0) := by
          unfold nineC
          rw [List.getElem?_append_left (by simp), List.getElem?_replicate, if_pos (by omega)]
        simpa using h9
      have hfr : wr.frozen? ⟨w.heap.size, k, none⟩ = false := by
        unfold World.frozen?
        rw [HB.out]
        simp
      have hb2 : (wr.setCell ⟨w.heap.size, k, none⟩ (.int .u8 ((48 + Y % 10 : Nat) : Int))).heap[w.heap.size]? = some (.cells (nineC k X).toArray 64) := by
        simp only [World.setCell, Array.getElem?_modify, HB.out, if_true, Option.map_some]
        rw [← HST.out]
        simp
      have hS2 := hS.setCell (p := ⟨w.heap.size, k, none⟩) (Nat.le_refl _) (.int .u8 ((48 + Y % 10 : Nat) : Int))
      have HN := hide (And.intro hb2 hS2)
      obtain ⟨d, hd⟩ : ∃ d, d = Y % 10 := ⟨_, rfl⟩
      have hd9 : d ≤ 9 := by omega
      have hq : (Y : Int) % 10 = (d : Int) := by omega
      have HD := hide hd
      rw [← hd] at HN
      clear hb2 hS2 hd HST
      have hk9 : (k : Int) ≤ 8 := by omega
      go_wp2
      go_roundw
      case rel => exact ⟨k, by omega, by go_num, by rw [← HNX.out]; go_num, HN.out.1, HN.out.2⟩
      case measure => simp [intOf] <;> omega
end Go.Proofs.YtfggecdgnidhfaaDoor
