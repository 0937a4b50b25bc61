/- The walk of slices.Equal over two rows of limbs. -/
import Derived.Test.YtonimfogmplgdaaIntSums
namespace Go.Proofs.Ytonimfogmplgdaa
open Go.RowKit

theorem lim_take {l k : List Nat} {j : Nat} (h : l.take j = k.take j) (hl : j < l.length) (hk : j < k.length) (he : lim l j = lim k j) : l.take (j + 1) = k.take (j + 1) := by
  rw [List.take_succ_eq_append_getElem hl, List.take_succ_eq_append_getElem hk, h]
  have : l[j] = k[j] := by
    unfold lim at he
    simpa [List.getD_eq_getElem?_getD, hl, hk] using he
  rw [this]
theorem ne_of_lim {l k : List Nat} {j : Nat} (he : lim l j ≠ lim k j) : decide (l = k) = false := decide_eq_false fun h => he (by rw [h])

set_option maxHeartbeats 2000000 in
theorem sequal_any (A : Option Addr) (n c : Nat) (l : List Nat) (B : Option Addr) (m d : Nat) (k : List Nat) (w : World) (h : Rd w A n c l) (h' : Rd w B m d k) :
    Calls Try.prog 45 #[.slice A n c, .slice B m d] w (Makes (.bool (decide (l = k))) w) := by
  have h63 := h.le63
  have k63 := h'.le63
  have HL := hide h.len
  have HK := hide h'.len
  by_cases hn : n = m
  · subst hn
    go_enter Try.func45, Try.ntmps45
    go_wp2_with fail
    go_loopw [5, 13] (fun _ i wr => ∃ j : Nat, j ≤ n ∧ i = .int .i64 (j : Int) ∧ l.take j = k.take j ∧ Below w.heap.size w wr) (fun _ i _ => n - (intOf i).toNat)
    case atStart => exact ⟨0, Nat.zero_le _, rfl, rfl, Below.refl _ _⟩
    case round =>
      obtain ⟨j, hj, rfl, htk, hS⟩ := hrel
      by_cases hlt : j < n
      · obtain ⟨b, off, rfl, hb, hcell⟩ := (h.below hS).at hlt
        obtain ⟨b', off', rfl, hb', hcell'⟩ := (h'.below hS).at hlt
        have HT := hide (lim_take htk (by rw [HL.out]; exact hlt) (by rw [HK.out]; exact hlt))
        have HD := hide (@ne_of_lim l k j)
        generalize lim l j = x at *
        generalize lim k j = y at *
        clear htk
        by_cases hxy : x = y
        · subst hxy
          go_upto_region 6 with (fail)
          go_region
          go_wp2
          go_roundw
          case rel => exact ⟨j + 1, by omega, by go_num, HT.out rfl, Below.drew hS⟩
          case measure => simp [intOf]; omega
        · have hx2 : ((x : Int) == (y : Int)) = false := by simp; omega
          have HE := hide (HD.out hxy)
          go_upto_region 6 with (fail)
          go_region
          go_wp2
          go_ret
          exact ⟨by rw [HE.out]; rfl, Below.drew hS⟩
      · obtain rfl : j = n := by omega
        have HE := hide (show decide (l = k) = true by
          rw [List.take_of_length_le (by rw [HL.out]; exact Nat.le_refl _), List.take_of_length_le (by rw [HK.out]; exact Nat.le_refl _)] at htk
          exact decide_eq_true htk)
        go_wp2
        go_ret
        exact ⟨by rw [HE.out]; rfl, hS⟩
  · have HE := hide (show decide (l = k) = false from decide_eq_false fun e => hn (by rw [← HL.out, ← HK.out, e]))
    have h1 : ((n : Int) == (m : Int)) = false := by simp; omega
    go_enter Try.func45, Try.ntmps45
    go_wp2
    go_ret
    exact ⟨by rw [HE.out]; rfl, Below.refl _ _⟩
end Go.Proofs.Ytonimfogmplgdaa
