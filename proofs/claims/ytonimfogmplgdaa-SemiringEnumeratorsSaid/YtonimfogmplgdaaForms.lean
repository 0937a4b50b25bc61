/- How the answer of math/bits.Len32 stands to the number of binary digits. The walks of Trim, Of, Bits, Int, of the program and of the reference, of the comparison of lists, and of the look at lengths. The walks of Of, Bits, Int, of the program and of the reference, of the comparison of lists, and of the look at lengths. The walks of the reference's Bits, of Int, of the comparison of lists, and of the look at lengths. The walks of Int, of the comparison of lists, and of the look at lengths. -/
import Derived.Test.YtonimfogmplgdaaMem
import Derived.Test.YtonimfogmplgdaaChecked
import Derived.Lib.Strings
import Derived.Lib.Slices
import Derived.Lib.Small
import Derived.Lib.Walk
import Derived.Lib.BitFns
import Derived.Test.YtonimfogmplgdaaShort
import Derived.BigQuiet
import Derived.Deep.QuietTactic
namespace Go.Proofs.Ytonimfogmplgdaa
open Go.RowKit

/-- The shelf's count of binary digits is this file's. -/
theorem bitLen_nbits (x : Nat) (hx : x < 4294967296) : Lib.bitLen x = nbits x := by
  by_cases h0 : x = 0
  · subst h0; rfl
  · have h1 := two_pow_nbits h0
    have h2 := lt_nbits x
    have hn : nbits x ≠ 0 := by rw [Ne, nbits_eq_zero]; exact h0
    have h3 := Lib.bitLen_shift (nbits x - 1) x h1 (by omega)
    have h4 : x / 2 ^ (nbits x - 1) = 1 := by
      rw [Nat.div_eq_iff (Nat.two_pow_pos _)]
      obtain ⟨m, hm⟩ : ∃ m, nbits x = m + 1 := ⟨nbits x - 1, by omega⟩
      rw [hm] at h1 h2 ⊢
      simp only [Nat.add_sub_cancel] at h1 ⊢
      rw [Nat.pow_succ] at h2
      omega
    rw [h3, h4]
    have : Lib.bitLen 1 = 1 := by decide
    omega

theorem Try.infoU32 : (Try.prog.info? 33).map (fun i => (i.zero, i.size, i.bytes)) = some (some (.int .u32 0), 1, 4) := by kernel_rfl

set_option maxHeartbeats 400000 in
theorem trim_own (A : Option Addr) (n c : Nat) (l : List Nat) (w : World) (h : Rd w A n c l) (hn : n ≤ 1073741824) :
    Calls Try.prog 52 #[.slice A n c] w (RetOwn 33 (val l) w) := by
  obtain ⟨i0, hi, hz0, hz1, hz2⟩ := info_parts Try.infoU32
  have hk := keep_le l n
  have hcut := h.cut hk
  have e1 : l.take (keep l n) = limbs (val l) := by rw [← h.len]; exact take_keep h.lims
  rw [e1] at hcut
  have HE := hide e1
  clear e1
  go_enter Try.func52, Try.ntmps52
  go_wp2_with (first
    | (go_at_call 54; refine (short_any A n c l _ h).mono ?_; rintro e w' ⟨rfl, rfl⟩)
    | (at_builtin; refine wpList_append_rd _ rfl _ _ _ 33 rfl i0 Try.underlying23 hi hz0 hz1 hz2 _ none 0 0 [] rfl (Own.nil _ _ _) A (keep l n) (keep l n) _ rfl hcut (by omega) (Nat.le_refl _) ?_; intro A' c' w1 hown hb))
  go_ret
  exact ⟨A', _, c', rfl, by simpa using hown, hb⟩

theorem trim_any (A : Option Addr) (n c : Nat) (l : List Nat) (w : World) (h : Rd w A n c l) (hn : n ≤ 1073741824) :
    Calls Try.prog 52 #[.slice A n c] w (RetNat (val l) w) := (trim_own A n c l w h hn).mono fun _ _ h => h.nat

set_option maxHeartbeats 400000 in
theorem rtrim_own (A : Option Addr) (n c : Nat) (l : List Nat) (w : World) (h : Rd w A n c l) (hn : n ≤ 1073741824) :
    Calls Try.prog 47 #[.slice A n c] w (RetOwn 33 (val l) w) := by
  obtain ⟨i0, hi, hz0, hz1, hz2⟩ := info_parts Try.infoU32
  have h63 := h.le63
  have hcap := h.cap
  have e1 : l.take (keep l n) = limbs (val l) := by rw [← h.len]; exact take_keep h.lims
  have HE := hide e1
  clear e1
  go_enter Try.func47, Try.ntmps47
  go_wp2
  go_loop [3] (fun v => ∃ k : Nat, k ≤ n ∧ v = .int .i64 k ∧ keep l k = keep l n) (fun v => (intOf v).toNat)
  case atStart => exact ⟨n, Nat.le_refl _, rfl, rfl⟩
  case round =>
    obtain ⟨k, hk, rfl, hkeep⟩ := hrel
    have HK := hide hkeep
    clear hkeep
    have hsrc := (h.head (m := keep l n) (keep_le l n)).below (below_alloc w (Obj.cells #[] 33))
    rw [HE.out] at hsrc
    have hdst := Own.lit0 w (base := w.heap.size) 33 (Nat.le_refl _)
    have hba := below_alloc w (Obj.cells #[] 33)
    have hkn := keep_le l n
    cases k with
    | zero =>
      have HK2 : Hid (keep l n = 0) := by rw [← HK.out]; rfl
      rw [HK2.out] at hsrc
      clear hkn
      go_wp2_with (at_builtin; refine wpList_append_rd _ rfl _ _ _ 33 rfl i0 Try.underlying23 hi hz0 hz1 hz2 w.heap.size _ 0 0 [] rfl hdst A 0 c _ rfl hsrc (by omega) (by simp) ?_; intro A' c' w1 hown hb)
      go_ret
      exact ⟨A', _, c', rfl, by simpa using hown, hba.trans hb⟩
    | succ j =>
      obtain ⟨b, off, rfl, hb, hcell⟩ := h.at (k := j) (by omega)
      by_cases h0 : lim l j = 0
      · rw [h0] at hcell
        have HK2 : Hid (keep l j = keep l n) := by rw [← HK.out]; simp [keep, h0, Hid]
        have H0 := hide h0
        clear h0 hsrc hdst hba
        go_wp2
        go_round
        case rel => exact ⟨j, by omega, rfl, HK2.out⟩
        case measure => simp [intOf]
      · have hne : ((lim l j : Int) == 0) = false := by simp; omega
        have HK2 : Hid (keep l n = j + 1) := by rw [← HK.out]; simp [keep, h0, Hid]
        rw [HK2.out] at hsrc
        clear hkn
        go_wp2_with (at_builtin; refine wpList_append_rd _ rfl _ _ _ 33 rfl i0 Try.underlying23 hi hz0 hz1 hz2 w.heap.size _ 0 0 [] rfl hdst _ (j + 1) c _ rfl hsrc (by omega) (by simp) ?_; intro A' c' w1 hown hb)
        go_ret
        exact ⟨A', _, c', rfl, by simpa using hown, hba.trans hb⟩

theorem rtrim_any (A : Option Addr) (n c : Nat) (l : List Nat) (w : World) (h : Rd w A n c l) (hn : n ≤ 1073741824) :
    Calls Try.prog 47 #[.slice A n c] w (RetNat (val l) w) := (rtrim_own A n c l w h hn).mono fun _ _ h => h.nat

theorem val_two (n : Nat) : val [n % 4294967296, n / 4294967296] = n := by
  simp only [val_cons, val_nil]; omega
theorem lims_two {n : Nat} (h : n < 18446744073709551616) : Lims [n % 4294967296, n / 4294967296] :=
  Lims.cons (by omega) (Lims.cons (by omega) Lims.nil)
theorem u32s_two (n : Nat) : (u32s [n % 4294967296, n / 4294967296]).toArray = #[Value.int .u32 ((n : Int) % 4294967296), Value.int .u32 ((n : Int) / 4294967296)] := by
  simp [u32s]
theorem own_two (w : World) (e : TypeId) {n : Nat} (h : n < 18446744073709551616) :
    Own (w.alloc (.cells #[Value.int .u32 ((n : Int) % 4294967296), Value.int .u32 ((n : Int) / 4294967296)] e)) w.heap.size e (some ⟨w.heap.size, 0, none⟩) 2 2 [n % 4294967296, n / 4294967296] := by
  rw [← u32s_two]
  exact Own.lit w (base := w.heap.size) e _ 2 rfl (Nat.le_refl _) (by decide) (lims_two h)

theorem RetOwn.later {e : TypeId} {N : Nat} {w w1 : World} {x : Ending} {w' : World} (h : RetOwn e N w1 x w') (hb : Below w.heap.size w w1) : RetOwn e N w x w' := by
  obtain ⟨A, n, c, hx, ho, hb'⟩ := h
  exact ⟨A, n, c, hx, ho.mono hb.size, below_step hb' hb⟩
theorem RetNat.later {N : Nat} {w w1 : World} {x : Ending} {w' : World} (h : RetNat N w1 x w') (hb : Below w.heap.size w w1) : RetNat N w x w' := by
  obtain ⟨A, n, c, hx, ho, hb'⟩ := h
  exact ⟨A, n, c, hx, ho, below_step hb' hb⟩

set_option maxHeartbeats 400000 in
theorem of_own (x : Nat) (w : World) (hx : x < 18446744073709551616) :
    Calls Try.prog 38 #[.int .u64 (x : Int)] w (RetOwn 33 x w) := by
  have ho := (own_two w 33 hx).rd
  have hb := below_alloc w (.cells #[Value.int .u32 ((x : Int) % 4294967296), Value.int .u32 ((x : Int) / 4294967296)] 33)
  have HV := hide (val_two x)
  go_enter Try.func38, Try.ntmps38
  go_wp2_with fail
  refine (trim_own _ 2 2 _ _ ho (by omega)).mono ?_
  rintro e w1 ⟨A, n, c, rfl, h1, h2⟩
  rw [HV.out] at h1
  go_wp2
  go_ret
  exact RetOwn.later ⟨A, n, c, rfl, h1, h2⟩ hb
theorem of_any (x : Nat) (w : World) (hx : x < 18446744073709551616) :
    Calls Try.prog 38 #[.int .u64 (x : Int)] w (RetNat x w) := (of_own x w hx).mono fun _ _ h => h.nat

/-- A call that returns v and leaves the world as it is. -/
def Gives (v : Value) (w : World) (x : Ending) (w' : World) : Prop := x = .returned v ∧ w' = w

set_option maxHeartbeats 400000 in
theorem limb_any (A : Option Addr) (n c : Nat) (l : List Nat) (k : Nat) (w : World) (h : Rd w A n c l) :
    Calls Try.prog 55 #[.slice A n c, .int .i64 (k : Int)] w (Gives (.int .u64 (lim l k : Nat)) w) := by
  by_cases hlt : k < n
  · obtain ⟨b, off, rfl, hb, hcell⟩ := h.at hlt
    have hx := h.lims.getD k
    go_enter Try.func55, Try.ntmps55
    go_wp2
    go_ret
    exact ⟨by simp, rfl⟩
  · have e0 : lim l k = 0 := getD_ge l k (by rw [h.len]; omega)
    have H0 := hide e0
    clear e0
    go_enter Try.func55, Try.ntmps55
    go_wp2
    go_ret
    rw [H0.out]
    exact ⟨rfl, rfl⟩

/-- Int's two results. -/
def intNum (N : Nat) : Int := if N < 9223372036854775808 then (N : Int) else 0
def intOk (N : Nat) : Bool := decide (N < 9223372036854775808)
theorem int_yes {N : Nat} (h : N < 9223372036854775808) : Value.tuple #[.int .i64 (intNum N), .bool (intOk N)] = .tuple #[.int .i64 (N : Int), .bool true] := by
  rw [intNum, if_pos h, intOk, decide_eq_true h]
theorem int_no {N : Nat} (h : ¬ N < 9223372036854775808) : Value.tuple #[.int .i64 (intNum N), .bool (intOk N)] = .tuple #[.int .i64 0, .bool false] := by
  rw [intNum, if_neg h, intOk, decide_eq_false h]

theorem ret_int2 {a b : Int} (h : a = b) (x : Value) : Ending.returned (.tuple #[.int .i64 a, x]) = .returned (.tuple #[.int .i64 b, x]) := by rw [h]

theorem shl_or (x y : Nat) (hx : x < 2147483648) (hy : y < 4294967296) : bits .or .i64 ((x : Int) * 4294967296) (y : Int) = ((x * 4294967296 + y : Nat) : Int) := by
  have h1 : (x : Int) * 4294967296 = ((x * 4294967296 : Nat) : Int) := by simp
  have h2 : x * 4294967296 ||| y = x * 4294967296 + y := by
    have := Nat.shiftLeft_add_eq_or_of_lt (a := x) (i := 32) (b := y) hy
    rw [Nat.shiftLeft_eq] at this
    exact this.symm
  rw [h1]
  show IntKind.i64.wrap ((BitVec.ofInt 64 ((x * 4294967296 : Nat) : Int) ||| BitVec.ofInt 64 (y : Int)).toNat : Int) = _
  rw [BitVec.toNat_or, BitVec.ofInt_natCast, BitVec.ofInt_natCast, BitVec.toNat_ofNat, BitVec.toNat_ofNat, Nat.mod_eq_of_lt (by omega), Nat.mod_eq_of_lt (by omega), h2, IntKind.wrap_i64]
  omega

end Go.Proofs.Ytonimfogmplgdaa
