/- Lists of lists of costs that are the same: the walk of sameInts; ints in a grid. -/
import Derived.Test.YtjadgomakoaibaaFits
namespace Go.Proofs.Ytjadgomakoaibaa
open Go.RowKit

/-- Costs. -/
def costC : Cells Int where
  rel z v _ := v = .int .i64 z ∧ 0 ≤ z ∧ z ≤ 4611686018427387904
  last _ _ _ _ _ h := h
  kept _ _ _ _ _ _ _ _ _ h := h
theorem RdV.costAt {w : World} {A : Option Addr} {n c : Nat} {xs : List Int} (h : RdV costC 0 w 1 A n c xs) {k : Nat} (hk : k < n) :
    ∃ b off, A = some ⟨b, off, none⟩ ∧ b < w.heap.size ∧ w.cell? ⟨b, off + k, none⟩ = some (.int .i64 (xs.getD k 0)) ∧ 0 ≤ xs.getD k 0 ∧ xs.getD k 0 ≤ 4611686018427387904 := by
  obtain ⟨b, off, v, h1, h2, h3, h4, h5, h6⟩ := h.at1 hk
  subst h4
  exact ⟨b, off, h1, h2, h3, h5, h6⟩

set_option maxHeartbeats 1000000 in
theorem sameInts_yes (w : World) (A : Option Addr) (n c : Nat) (B : Option Addr) (m d : Nat) (R : List (List Int)) (h : RdR costC 0 w 1 A n c R) (h' : RdR costC 0 w 1 B m d R) :
    Calls Try.prog 21 #[.slice A n c, .slice B m d] w (Makes (.bool true) w) := by
  obtain rfl : n = m := by rw [← h.len, ← h'.len]
  have h63 := h.le63
  go_enter Try.func21, Try.ntmps21
  go_wp2_with fail
  go_loopw [5, 6] (fun iv _ wr => ∃ i : Nat, i ≤ n ∧ iv = .int .i64 (i : Int) ∧ Below w.heap.size w wr) (fun iv _ _ => n - (intOf iv).toNat)
  case atStart => exact ⟨0, Nat.zero_le _, rfl, Below.refl _ _⟩
  case round =>
    obtain ⟨i, hi, rfl, hS⟩ := hrel
    by_cases hlt : i < n
    · obtain ⟨b, off, Ai, mi, ei, rfl, hb, hcell, hrd⟩ := (h.below hS).at hlt
      obtain ⟨b2, off2, Bi, ki, fi, rfl, hb2, hcell2, hrd2⟩ := (h'.below hS).at hlt
      obtain rfl : mi = ki := by have h1 := hrd.len; have h2 := hrd2.len; omega
      have hm63 := hrd.le63
      have hi2 : (i : Int) < (n : Int) := by omega
      obtain ⟨wo, rfl⟩ : ∃ wo : World, wo = wr := ⟨_, rfl⟩
      go_wp2_with fail
      go_quiet (fail)
      go_wp2_with fail
      go_loopw [6] (fun jv wr => ∃ j : Nat, j ≤ mi ∧ jv = .int .i64 (j : Int) ∧ Below wo.heap.size wo wr) (fun jv _ => mi - (intOf jv).toNat)
      case atStart => exact ⟨0, Nat.zero_le _, rfl, below_drewN (Below.refl _ _) _⟩
      case round =>
        obtain ⟨j, hj, rfl, hS1⟩ := hrel
        have hcA := (hS1.cell (p := ⟨b, off + i, none⟩) hb).trans hcell
        have hcB := (hS1.cell (p := ⟨b2, off2 + i, none⟩) hb2).trans hcell2
        clear hcell hcell2
        by_cases hltj : j < mi
        · obtain ⟨b3, off3, rfl, hb3, hc3, _, _⟩ := (hrd.below hS1).costAt hltj
          obtain ⟨b4, off4, rfl, hb4, hc4, _, _⟩ := (hrd2.below hS1).costAt hltj
          have hj2 : (j : Int) < (mi : Int) := by omega
          generalize (R.getD i []).getD j 0 = x at *
          go_wp2_with fail
          go_quiet (fail)
          go_wp2
          go_roundw
          case rel => exact ⟨j + 1, by omega, by go_num, below_drewN hS1 _⟩
          case measure => simp [intOf]; omega
        · go_wp2
          go_roundw
          case rel => exact ⟨i + 1, by omega, by go_num, below_step hS1 hS⟩
          case measure => simp [intOf]; omega
    · go_wp2
      go_ret
      exact ⟨rfl, hS⟩
end Go.Proofs.Ytjadgomakoaibaa
