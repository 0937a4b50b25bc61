/- The walks of LeadingZeros32 and of nat.shift. -/
import Derived.Test.YtfggecdgnidhfaaDoorRefDiv
namespace Go.Proofs.YtfggecdgnidhfaaDoor
open Go.RowKit

theorem lz32_any (x : Nat) (w : World) (hx : x < 4294967296) :
    Calls Tryd.prog 70 #[.int .u32 (x : Int)] w fun e w' => e = .returned (.int .i64 (((32 - nbits x : Nat)) : Int)) ∧ w' = w := by
  have h1 : nbits x ≤ 32 := nbits_le (by simpa using hx)
  obtain ⟨t, ht⟩ : ∃ t, t = nbits x := ⟨_, rfl⟩
  have hc := len32_any x w hx
  rw [← ht] at h1 hc ⊢
  clear ht
  go_enter Tryd.func70, Tryd.ntmps70
  go_wp2_with fail
  refine hc.mono ?_
  rintro e w1 ⟨rfl, rfl⟩
  go_wp2
  go_ret
  exact ⟨by have e : ((32 - t : Nat) : Int) = 32 - (t : Int) := by omega
            rw [e]; rfl, rfl⟩

theorem take_set_snoc (o : List Nat) (j x : Nat) (h : j < o.length) : (o.set j x).take (j + 1) = o.take j ++ [x] := by
  rw [List.take_add_one, List.take_set_of_le (Nat.le_refl _)]
  simp [h]
theorem shl_or_any {x r t : Nat} (hx : x < 4294967296) (hr : r < 2 ^ t) (ht : t < 32) :
    x * 2 ^ t + r < 18446744073709551616 ∧ (x * 2 ^ t + r) / 4294967296 < 2 ^ t ∧ bits .or .u64 (IntKind.u64.wrap ((x : Int) * 2 ^ t)) (r : Int) = ((x * 2 ^ t + r : Nat) : Int) := by
  have h1 : 2 ^ t ≤ 2 ^ 31 := Nat.pow_le_pow_right (by omega) (by omega)
  have h2 : x * 2 ^ t ≤ 4294967295 * 2 ^ t := Nat.mul_le_mul (by omega) (Nat.le_refl _)
  have e : (x : Int) * 2 ^ t = ((x * 2 ^ t : Nat) : Int) := by simp
  have h3 : x * 2 ^ t ||| r = x * 2 ^ t + r := by
    have := Nat.shiftLeft_add_eq_or_of_lt (a := x) (i := t) (b := r) hr
    rw [Nat.shiftLeft_eq] at this
    exact this.symm
  rw [e]
  generalize 2 ^ t = p at *
  generalize x * p = y at *
  refine ⟨by omega, by omega, ?_⟩
  rw [IntWalk.u64_in (y : Int) (by omega)]
  show IntKind.u64.wrap ((BitVec.ofInt 64 (y : Int) ||| BitVec.ofInt 64 (r : Int)).toNat : Int) = _
  rw [BitVec.toNat_or, BitVec.ofInt_natCast, BitVec.ofInt_natCast, BitVec.toNat_ofNat, BitVec.toNat_ofNat, Nat.mod_eq_of_lt (by omega), Nat.mod_eq_of_lt (by omega), h3]
  exact IntWalk.u64_in _ (by omega)

/-- A shifted number in a row of the call's own. -/
def RetShift (N n : Nat) (w : World) (x : Ending) (w' : World) : Prop :=
  ∃ A c o, x = .returned (.slice A (n + 1) c) ∧ Own w' w.heap.size 40 A (n + 1) c o ∧ val o = N ∧ Below w.heap.size w w'

set_option maxHeartbeats 1000000 in
theorem shift_any (A : Option Addr) (n c : Nat) (l : List Nat) (t : Nat) (w : World) (h : Rd w A n c l) (hn : n ≤ 100000) (ht : t < 32) :
    Calls Tryd.prog 71 #[.slice A n c, .int .i64 (t : Int)] w (RetShift (val l * 2 ^ t) n w) := by
  obtain ⟨i0, hi, hz0, hz1, hz2⟩ := info_parts Tryd.infoU32
  have HM := hide (show 2 ^ t = 4294967296 ^ 0 * 2 ^ t by simp)
  have hz := shlAt_start (M := 2 ^ t) (a := l) 0
  have hp := Nat.pow_pos (n := t) (show 0 < 2 by omega)
  go_enter Tryd.func71, Tryd.ntmps71
  go_wp2_with (at_make; refine wpList_make_rd _ rfl _ _ _ 40 rfl i0 Tryd.underlying23 hi hz0 hz1 hz2 _ _ _ _ (n + 1) rfl rfl rfl rfl (by omega) ?_; intro w1 hown1 hb1)
  go_loopw [6, 7, 8, 9, 16] (fun cc _ _ _ i wr => ∃ (j r : Nat) (o : List Nat), j ≤ n ∧ i = .int .i64 (j : Int) ∧ cc = .int .u64 (r : Int) ∧ r < 2 ^ t ∧ Own wr w.heap.size 40 (some ⟨w.heap.size, 0, none⟩) (n + 1) (n + 1) o ∧ ShlAt (2 ^ t) l (o.take j) j r ∧ Below w.heap.size w wr) (fun _ _ _ _ i _ => n - (intOf i).toNat)
  case atStart => exact ⟨0, 0, _, by omega, rfl, rfl, hp, hown1, by simpa using hz, hb1⟩
  case round =>
    clear hz
    obtain ⟨j, r, o, hj, rfl, rfl, hr, hown, hd, hS⟩ := hrel
    have HD := hide hd
    clear hd
    by_cases hlt : j < n
    · obtain ⟨b, off, rfl, hb, hcell⟩ := (h.below hS).at (k := j) (by omega)
      have hx := h.lims.getD j
      have hoc := hown.cell (k := j) (by omega)
      have hof := hown.free j
      obtain ⟨hs1, hs3, hs2⟩ := shl_or_any hx hr ht
      obtain ⟨sv, hsv⟩ : ∃ sv, sv = lim l j * 2 ^ t + r := ⟨_, rfl⟩
      rw [← hsv] at hs1 hs2 hs3
      have hst := shlAt_step HD.out HM.out (by rw [List.length_take, hown.len]; omega) (by rw [h.len]; exact hlt) sv hsv
      rw [← take_set_snoc o j _ (by rw [hown.len]; omega)] at hst
      have HST := hide hst
      have HP := hide hs3
      have HR := hide hr
      clear hsv hst hs3 hr
      go_wp2
      go_roundw
      case rel => exact ⟨j + 1, sv / 4294967296, _, by omega, by go_num, by simp, HP.out, hown.setInt j (Nat.mod_lt sv (by omega)) (by simp), HST.out, hS.setCell (Nat.le_refl _) _⟩
      case measure => simp [intOf]; omega
    · obtain rfl : j = n := by omega
      have he := shlAt_end HD.out (by rw [h.len]; exact Nat.le_refl _)
      have hoc := hown.cell (k := j) (by omega)
      have hof := hown.free j
      have hrb : r < 4294967296 := Nat.lt_trans hr (show 2 ^ t < 2 ^ 32 from Nat.pow_lt_pow_right (by omega) ht)
      rw [← take_set_snoc o j _ (by rw [hown.len]; omega), List.take_of_length_le (by rw [List.length_set, hown.len]; exact Nat.le_refl _)] at he
      have HE := hide he
      clear he hr
      go_wp2
      go_ret
      exact ⟨_, _, _, rfl, hown.setInt j hrb rfl, HE.out, hS.setCell (Nat.le_refl _) _⟩
end Go.Proofs.YtfggecdgnidhfaaDoor
