/- The walks of Int, of the comparison of lists, and of the look at lengths. -/
import Derived.Test.YtpfhohfcohkhnaaForms3
namespace Go.Proofs.Ytpfhohfcohkhnaa
open Go.RowKit

/-- Int's two results. -/
def intNum (N : Nat) : Int := if N < 9223372036854775808 then (N : Int) else 0
def intOk (N : Nat) : Bool := decide (N < 9223372036854775808)
theorem int_yes {N : Nat} (h : N < 9223372036854775808) : Value.tuple #[.int .i64 (intNum N), .bool (intOk N)] = .tuple #[.int .i64 (N : Int), .bool true] := by
  rw [intNum, if_pos h, intOk, decide_eq_true h]
theorem int_no {N : Nat} (h : ¬ N < 9223372036854775808) : Value.tuple #[.int .i64 (intNum N), .bool (intOk N)] = .tuple #[.int .i64 0, .bool false] := by
  rw [intNum, if_neg h, intOk, decide_eq_false h]

theorem ret_int2 {a b : Int} (h : a = b) (x : Value) : Ending.returned (.tuple #[.int .i64 a, x]) = .returned (.tuple #[.int .i64 b, x]) := by rw [h]

theorem shl_or (x y : Nat) (hx : x < 2147483648) (hy : y < 4294967296) : bits .or .i64 ((x : Int) * 4294967296) (y : Int) = ((x * 4294967296 + y : Nat) : Int) := by
  have h1 : (x : Int) * 4294967296 = ((x * 4294967296 : Nat) : Int) := by simp
  have h2 : x * 4294967296 ||| y = x * 4294967296 + y := by
    have := Nat.shiftLeft_add_eq_or_of_lt (a := x) (i := 32) (b := y) hy
    rw [Nat.shiftLeft_eq] at this
    exact this.symm
  rw [h1]
  show IntKind.i64.wrap ((BitVec.ofInt 64 ((x * 4294967296 : Nat) : Int) ||| BitVec.ofInt 64 (y : Int)).toNat : Int) = _
  rw [BitVec.toNat_or, BitVec.ofInt_natCast, BitVec.ofInt_natCast, BitVec.toNat_ofNat, BitVec.toNat_ofNat, Nat.mod_eq_of_lt (by omega), Nat.mod_eq_of_lt (by omega), h2, IntKind.wrap_i64]
  omega

set_option maxHeartbeats 400000 in
theorem int_any (A : Option Addr) (n c : Nat) (l : List Nat) (w : World) (h : Rd w A n c l) (hn : n ≤ 1073741824) :
    Calls Try.prog 43 #[.slice A n c] w (Gives (.tuple #[.int .i64 (intNum (val l)), .bool (intOk (val l))]) w) := by
  have hk := keep_le l n
  have hcut := h.cut hk
  have e1 : l.take (keep l n) = limbs (val l) := by rw [← h.len]; exact take_keep h.lims
  rw [e1] at hcut
  have HE := hide e1
  clear e1
  go_enter Try.func43, Try.ntmps43
  go_wp2_with fail
  refine (short_any A n c l _ h).mono ?_
  rintro e w' ⟨rfl, rfl⟩
  generalize keep l n = m at *
  go_wp2_with fail
  refine (bits_any A m m _ _ hcut (by omega)).mono ?_
  rintro e w' ⟨rfl, rfl⟩
  rw [val_limbs]
  by_cases hbig : 63 < nbits (val l)
  · have hge : ¬ val l < 9223372036854775808 := by
      intro h0
      have := nbits_le (n := val l) (k := 63) h0
      omega
    go_wp2
    go_ret2
    rw [int_no hge]
    exact ⟨rfl, rfl⟩
  · have hlt : val l < 9223372036854775808 := (nbits_le_iff (k := 63)).1 (by omega)
    have hm2 : m ≤ 2 := by
      have h1 := hcut.len
      have h2 : (limbs (val l)).length ≤ 2 := length_limbs_le (by omega)
      omega
    have HO := hide (int_yes hlt)
    have hv := val_limbs (val l)
    generalize limbs (val l) = q at *
    have hql := hcut.len
    have hqs := hcut.lims
    have HV := hide hv
    have HQ := hide hql
    clear hv hql
    go_wp2
    go_loop [4, 5] (fun a b => ∃ j v : Nat, j ≤ m ∧ a = .int .i64 (v : Int) ∧ b = .int .i64 ((j : Int) - 1) ∧ v = val (q.drop j) ∧ v < 9223372036854775808) (fun _ b => (intOf b + 1).toNat)
    case atStart => exact ⟨m, 0, Nat.le_refl _, rfl, rfl, by rw [val_drop_ge _ _ (by have := HQ.out; omega)], by omega⟩
    case round =>
      obtain ⟨j, v, hj, rfl, rfl, hv, hv63⟩ := hrel
      have HVJ := hide hv
      clear hv
      cases j with
      | zero =>
        go_wp2
        go_ret2
        rw [HO.out]
        refine ⟨?_, rfl⟩
        have := HVJ.out
        rw [List.drop_zero, HV.out] at this
        rw [this]
        rfl
      | succ k =>
        obtain ⟨b, off, rfl, hb, hcell⟩ := hcut.at (k := k) (by omega)
        have hx := hqs.getD k
        have hvd := val_drop q k (by have := HQ.out; omega)
        have hle : val (q.drop k) < 9223372036854775808 := by
          have h1 := val_take_drop q k (by have := HQ.out; omega)
          rw [HV.out] at h1
          have h2 : 1 * val (q.drop k) ≤ 4294967296 ^ k * val (q.drop k) := Nat.mul_le_mul_right _ (Nat.pow_pos (by omega))
          omega
        have hvs : v < 2147483648 := by
          have := HVJ.out
          omega
        have hor := shl_or v (lim q k) hvs hx
        have HVD := hide hvd
        have HLE := hide hle
        clear hvd hle
        go_wp2
        go_round
        case rel => exact ⟨k, v * 4294967296 + lim q k, by omega, by go_num, by go_num, by have := HVJ.out; have := HVD.out; omega, by have := HVJ.out; have := HVD.out; have := HLE.out; omega⟩
        case measure => simp [intOf]

set_option maxHeartbeats 400000 in
theorem rint_any (A : Option Addr) (n c : Nat) (l : List Nat) (w : World) (h : Rd w A n c l) (hn : n ≤ 1073741824) :
    Calls Try.prog 44 #[.slice A n c] w (Makes (.tuple #[.int .i64 (intNum (val l)), .bool (intOk (val l))]) w) := by
  go_enter Try.func44, Try.ntmps44
  go_wp2_with fail
  refine (rbits_any A n c _ _ h hn).mono ?_
  rintro e w1 ⟨rfl, hb1⟩
  by_cases hbig : 63 < nbits (val l)
  · have hge : ¬ val l < 9223372036854775808 := by
      intro h0
      have := nbits_le (n := val l) (k := 63) h0
      omega
    go_wp2
    go_ret2
    rw [int_no hge]
    exact ⟨rfl, hb1⟩
  · have hlt : val l < 9223372036854775808 := (nbits_le_iff (k := 63)).1 (by omega)
    have HO := hide (int_yes hlt)
    have h1 := h.below hb1
    have h0 := h.lims.getD 0
    have h2 := h.lims.getD 1
    have hv : val l = lim l 0 + 4294967296 * lim l 1 := by
      have e0 := val_take_succ' l 0
      have e1 := val_take_succ' l 1
      have e2 := val_take_drop l 2
      by_cases hlen : l.length ≤ 2
      · rw [val_take_all hlen] at e1
        rw [e1, e0]
        simp [val_nil]
      · have e3 := e2 (by omega)
        have e4 : val (l.drop 2) = 0 := by
          rcases Nat.eq_zero_or_pos (val (l.drop 2)) with h9 | h9
          · exact h9
          · have : 4294967296 ^ 2 * 1 ≤ 4294967296 ^ 2 * val (l.drop 2) := Nat.mul_le_mul_left _ h9
            omega
        rw [e3, e4, e1, e0]
        simp [val_nil]
    have hlt2 : lim l 0 + 4294967296 * lim l 1 < 9223372036854775808 := by omega
    have HV := hide hv
    clear hv hlt
    go_wp2_with fail
    refine (limb_any A n c l 0 _ h1).mono ?_
    rintro e w' ⟨rfl, rfl⟩
    go_wp2_with fail
    refine (limb_any A n c l 1 _ h1).mono ?_
    rintro e w' ⟨rfl, rfl⟩
    go_wp2
    go_ret2
    rw [HO.out]
    refine ⟨?_, hb1⟩
    rw [HV.out]
    exact ret_int2 (by omega) _
end Go.Proofs.Ytpfhohfcohkhnaa
