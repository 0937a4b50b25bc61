/- The walk of nat.short. -/
import Derived.Test.YtfggecdgnidhfaaDoorMem
import Derived.Test.YtfggecdgnidhfaaDoorChecked
namespace Go.Proofs.YtfggecdgnidhfaaDoor
open Go.RowKit

set_option maxHeartbeats 400000 in
theorem short_any (A : Option Addr) (n c : Nat) (l : List Nat) (w : World) (h : Rd w A n c l) :
    Calls Tryd.prog 19 #[.slice A n c] w fun e w' => e = .returned (.slice A (keep l n) (keep l n)) ∧ w' = w := by
  have h63 := h.le63
  have hcap := h.cap
  go_enter Tryd.func19, Tryd.ntmps19
  go_wp2
  go_loop [3] (fun v => ∃ k : Nat, k ≤ n ∧ v = .int .i64 k ∧ keep l k = keep l n) (fun v => (intOf v).toNat)
  case atStart => exact ⟨n, Nat.le_refl _, rfl, rfl⟩
  case round =>
    obtain ⟨k, hk, rfl, hkeep⟩ := hrel
    have HK := hide hkeep
    clear hkeep
    cases k with
    | zero =>
      go_wp2
      go_ret
      rw [← HK.out]
      exact ⟨rfl, rfl⟩
    | succ j =>
      obtain ⟨b, off, rfl, hb, hcell⟩ := h.at (k := j) (by omega)
      by_cases h0 : lim l j = 0
      · rw [h0] at hcell
        have HK2 : Hid (keep l j = keep l n) := by rw [← HK.out]; simp [keep, h0, Hid]
        have H0 := hide h0
        clear h0
        go_wp2
        go_round
        case rel => exact ⟨j, by omega, rfl, HK2.out⟩
        case measure => simp [intOf]
      · have hne : ((lim l j : Int) == 0) = false := by simp; omega
        have HK2 : Hid (keep l n = j + 1) := by rw [← HK.out]; simp [keep, h0, Hid]
        go_wp2
        go_ret
        rw [HK2.out]
        exact ⟨rfl, rfl⟩

/-- The same: what it returns reads as the canonical limbs. -/
theorem short_lim (A : Option Addr) (n c : Nat) (l : List Nat) (w : World) (h : Rd w A n c l) :
    Calls Tryd.prog 19 #[.slice A n c] w fun e w' => ∃ m, e = .returned (.slice A m m) ∧ Rd w' A m m (limbs (val l)) ∧ m ≤ n ∧ w' = w := by
  refine (short_any A n c l w h).mono ?_
  rintro e w' ⟨rfl, rfl⟩
  have hcut := h.cut (keep_le l n)
  have e1 : l.take (keep l n) = limbs (val l) := by rw [← h.len]; exact take_keep h.lims
  rw [e1] at hcut
  exact ⟨keep l n, rfl, hcut, keep_le l n, rfl⟩
end Go.Proofs.YtfggecdgnidhfaaDoor
