/- The walks of the reference's Bits, of Int, of the comparison of lists, and of the look at lengths. -/
import Derived.Test.YtlomanhmpbapeaaForms2
namespace Go.Proofs.Ytlomanhmpbapeaa
open Go.RowKit

set_option maxHeartbeats 400000 in
theorem rbits_any (A : Option Addr) (n c : Nat) (l : List Nat) (w : World) (h : Rd w A n c l) (hn : n ≤ 1073741824) :
    Calls Try.prog 84 #[.slice A n c] w (Makes (.int .i64 (nbits (val l) : Nat)) w) := by
  go_enter Try.func84, Try.ntmps84
  go_wp2_with fail
  refine (rtrim_any A n c l _ h hn).mono ?_
  rintro e w1 ⟨A1, n1, c1, rfl, h1, hb1⟩
  by_cases hz : n1 = 0
  · subst hz
    have e2 : val l = 0 := limbs_eq_nil.1 (List.eq_nil_of_length_eq_zero h1.len)
    have H2 := hide e2
    clear e2
    go_wp2
    go_ret
    rw [H2.out]
    exact ⟨rfl, hb1⟩
  · obtain ⟨m, rfl⟩ : ∃ m, n1 = m + 1 := ⟨n1 - 1, by omega⟩
    obtain ⟨b, off, rfl, hb, hcell⟩ := h1.at (k := m) (by omega)
    have hlen := h1.len
    have hlims := h1.lims
    have htop : lim (limbs (val l)) m ≠ 0 := by
      have hne : limbs (val l) ≠ [] := by intro h0; rw [h0] at hlen; simp at hlen
      have := canon_limbs (val l) hne
      rw [List.getLast_eq_getElem] at this
      rw [lim_eq, List.getElem?_eq_getElem (by omega)]
      simpa [hlen] using this
    have ht := nbits_top hlims hlen htop
    rw [val_limbs] at ht
    have hx := hlims.getD m
    have hmn : m ≤ 1073741824 := by
      have := length_limbs_val_le h.lims
      have := h.len
      omega
    have HT := hide ht
    clear hlen hlims htop ht hz
    generalize lim (limbs (val l)) m = top at *
    have hnb : nbits top ≤ 32 := nbits_le (by omega)
    go_wp2_with fail
    go_loop [3, 4] (fun a b => ∃ j t : Nat, a = .int .i64 (j : Int) ∧ b = .int .u32 (t : Int) ∧ t < 4294967296 ∧ j ≤ 34359738368 + 32 ∧ j + nbits t = 32 * m + nbits top) (fun _ b => (intOf b).toNat)
    case atStart => exact ⟨32 * m, top, by go_num, rfl, hx, by omega, rfl⟩
    case round =>
      obtain ⟨j, t, rfl, rfl, ht, hj, hjt⟩ := hrel
      have HJ := hide hjt
      clear hjt
      by_cases h0 : t = 0
      · subst h0
        go_wp2
        go_ret
        have := HJ.out
        rw [nbits_zero] at this
        rw [HT.out]
        exact ⟨by rw [← this]; simp, hb1⟩
      · have hpos : 0 < t := by omega
        have hhalf := nbits_half h0
        have hb2 : nbits (t / 2) ≤ 32 := nbits_le (by omega)
        have HH := hide hhalf
        clear hhalf h0
        go_wp2
        go_round
        case rel => exact ⟨j + 1, t / 2, by go_num, by go_num, by omega, by have := HJ.out; have := HH.out; omega, by have := HJ.out; have := HH.out; omega⟩
        case measure => simp [intOf]; omega

set_option maxHeartbeats 400000 in
theorem limb_any (A : Option Addr) (n c : Nat) (l : List Nat) (k : Nat) (w : World) (h : Rd w A n c l) :
    Calls Try.prog 91 #[.slice A n c, .int .i64 (k : Int)] w (Gives (.int .u64 (lim l k : Nat)) w) := by
  by_cases hlt : k < n
  · obtain ⟨b, off, rfl, hb, hcell⟩ := h.at hlt
    have hx := h.lims.getD k
    go_enter Try.func91, Try.ntmps91
    go_wp2
    go_ret
    exact ⟨by simp, rfl⟩
  · have e0 : lim l k = 0 := getD_ge l k (by rw [h.len]; omega)
    have H0 := hide e0
    clear e0
    go_enter Try.func91, Try.ntmps91
    go_wp2
    go_ret
    rw [H0.out]
    exact ⟨rfl, rfl⟩
end Go.Proofs.Ytlomanhmpbapeaa
