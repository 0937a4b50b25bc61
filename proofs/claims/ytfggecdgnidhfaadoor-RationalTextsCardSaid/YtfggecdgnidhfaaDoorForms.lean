/- How the answer of math/bits.Len32 stands to the number of binary digits. The walks of Trim, Of, Bits, Int, of the program and of the reference, of the comparison of lists, and of the look at lengths. The walks of Of, Bits, Int, of the program and of the reference, of the comparison of lists, and of the look at lengths. The walks of the reference's Bits, of Int, of the comparison of lists, and of the look at lengths. The walks of Int, of the comparison of lists, and of the look at lengths. -/
import Derived.Test.YtfggecdgnidhfaaDoorMem
import Derived.Test.YtfggecdgnidhfaaDoorLenA
import Derived.Test.YtfggecdgnidhfaaDoorShort
import Derived.BigQuiet
import Derived.Deep.QuietTactic
namespace Go.Proofs.YtfggecdgnidhfaaDoor
open Go.RowKit

/-- The shelf's count of binary digits is this file's. -/
theorem bitLen_nbits (x : Nat) (hx : x < 4294967296) : Lib.bitLen x = nbits x := by
  by_cases h0 : x = 0
  · subst h0; rfl
  · have h1 := two_pow_nbits h0
    have h2 := lt_nbits x
    have hn : nbits x ≠ 0 := by rw [Ne, nbits_eq_zero]; exact h0
    have h3 := Lib.bitLen_shift (nbits x - 1) x h1 (by omega)
    have h4 : x / 2 ^ (nbits x - 1) = 1 := by
      rw [Nat.div_eq_iff (Nat.two_pow_pos _)]
      obtain ⟨m, hm⟩ : ∃ m, nbits x = m + 1 := ⟨nbits x - 1, by omega⟩
      rw [hm] at h1 h2 ⊢
      simp only [Nat.add_sub_cancel] at h1 ⊢
      rw [Nat.pow_succ] at h2
      omega
    rw [h3, h4]
    have : Lib.bitLen 1 = 1 := by decide
    omega

/-- bits.Len32, in this file's words. -/
theorem len32_any (x : Nat) (w : World) (hx : x < 4294967296) :
    Calls Tryd.prog 56 #[.int .u32 (x : Int)] w fun e w' => e = .returned (.int .i64 (nbits x : Nat)) ∧ w' = w := by
  refine (bits_Len32 (x : Int) w (by omega) (by omega)).mono fun e w' ⟨he, hw⟩ => ⟨?_, hw⟩
  rw [he, Int.toNat_natCast, bitLen_nbits x hx]

theorem Tryd.infoU32 : (Tryd.prog.info? 40).map (fun i => (i.zero, i.size, i.bytes)) = some (some (.int .u32 0), 1, 4) := by kernel_rfl

set_option maxHeartbeats 400000 in
theorem trim_own (A : Option Addr) (n c : Nat) (l : List Nat) (w : World) (h : Rd w A n c l) (hn : n ≤ 1073741824) :
    Calls Tryd.prog 27 #[.slice A n c] w (RetOwn 40 (val l) w) := by
  obtain ⟨i0, hi, hz0, hz1, hz2⟩ := info_parts Tryd.infoU32
  have hk := keep_le l n
  have hcut := h.cut hk
  have e1 : l.take (keep l n) = limbs (val l) := by rw [← h.len]; exact take_keep h.lims
  rw [e1] at hcut
  have HE := hide e1
  clear e1
  go_enter Tryd.func27, Tryd.ntmps27
  go_wp2_with (first
    | (go_at_call 19; refine (short_any A n c l _ h).mono ?_; rintro e w' ⟨rfl, rfl⟩)
    | (at_builtin; refine wpList_append_rd _ rfl _ _ _ 40 rfl i0 Tryd.underlying23 hi hz0 hz1 hz2 _ none 0 0 [] rfl (Own.nil _ _ _) A (keep l n) (keep l n) _ rfl hcut (by omega) (Nat.le_refl _) ?_; intro A' c' w1 hown hb))
  go_ret
  exact ⟨A', _, c', rfl, by simpa using hown, hb⟩

theorem trim_any (A : Option Addr) (n c : Nat) (l : List Nat) (w : World) (h : Rd w A n c l) (hn : n ≤ 1073741824) :
    Calls Tryd.prog 27 #[.slice A n c] w (RetNat (val l) w) := (trim_own A n c l w h hn).mono fun _ _ h => h.nat

set_option maxHeartbeats 400000 in
theorem rtrim_own (A : Option Addr) (n c : Nat) (l : List Nat) (w : World) (h : Rd w A n c l) (hn : n ≤ 1073741824) :
    Calls Tryd.prog 11 #[.slice A n c] w (RetOwn 40 (val l) w) := by
  obtain ⟨i0, hi, hz0, hz1, hz2⟩ := info_parts Tryd.infoU32
  have h63 := h.le63
  have hcap := h.cap
  have e1 : l.take (keep l n) = limbs (val l) := by rw [← h.len]; exact take_keep h.lims
  have HE := hide e1
  clear e1
  go_enter Tryd.func11, Tryd.ntmps11
  go_wp2
  go_loop [3] (fun v => ∃ k : Nat, k ≤ n ∧ v = .int .i64 k ∧ keep l k = keep l n) (fun v => (intOf v).toNat)
  case atStart => exact ⟨n, Nat.le_refl _, rfl, rfl⟩
  case round =>
    obtain ⟨k, hk, rfl, hkeep⟩ := hrel
    have HK := hide hkeep
    clear hkeep
    have hsrc := (h.head (m := keep l n) (keep_le l n)).below (below_alloc w (Obj.cells #[] 40))
    rw [HE.out] at hsrc
    have hdst := Own.lit0 w (base := w.heap.size) 40 (Nat.le_refl _)
    have hba := below_alloc w (Obj.cells #[] 40)
    have hkn := keep_le l n
    cases k with
    | zero =>
      have HK2 : Hid (keep l n = 0) := by rw [← HK.out]; rfl
      rw [HK2.out] at hsrc
      clear hkn
      go_wp2_with (at_builtin; refine wpList_append_rd _ rfl _ _ _ 40 rfl i0 Tryd.underlying23 hi hz0 hz1 hz2 w.heap.size _ 0 0 [] rfl hdst A 0 c _ rfl hsrc (by omega) (by simp) ?_; intro A' c' w1 hown hb)
      go_ret
      exact ⟨A', _, c', rfl, by simpa using hown, hba.trans hb⟩
    | succ j =>
      obtain ⟨b, off, rfl, hb, hcell⟩ := h.at (k := j) (by omega)
      by_cases h0 : lim l j = 0
      · rw [h0] at hcell
        have HK2 : Hid (keep l j = keep l n) := by rw [← HK.out]; simp [keep, h0, Hid]
        have H0 := hide h0
        clear h0 hsrc hdst hba
        go_wp2
        go_round
        case rel => exact ⟨j, by omega, rfl, HK2.out⟩
        case measure => simp [intOf]
      · have hne : ((lim l j : Int) == 0) = false := by simp; omega
        have HK2 : Hid (keep l n = j + 1) := by rw [← HK.out]; simp [keep, h0, Hid]
        rw [HK2.out] at hsrc
        clear hkn
        go_wp2_with (at_builtin; refine wpList_append_rd _ rfl _ _ _ 40 rfl i0 Tryd.underlying23 hi hz0 hz1 hz2 w.heap.size _ 0 0 [] rfl hdst _ (j + 1) c _ rfl hsrc (by omega) (by simp) ?_; intro A' c' w1 hown hb)
        go_ret
        exact ⟨A', _, c', rfl, by simpa using hown, hba.trans hb⟩

theorem rtrim_any (A : Option Addr) (n c : Nat) (l : List Nat) (w : World) (h : Rd w A n c l) (hn : n ≤ 1073741824) :
    Calls Tryd.prog 11 #[.slice A n c] w (RetNat (val l) w) := (rtrim_own A n c l w h hn).mono fun _ _ h => h.nat

theorem val_two (n : Nat) : val [n % 4294967296, n / 4294967296] = n := by
  simp only [val_cons, val_nil]; omega
theorem lims_two {n : Nat} (h : n < 18446744073709551616) : Lims [n % 4294967296, n / 4294967296] :=
  Lims.cons (by omega) (Lims.cons (by omega) Lims.nil)
theorem u32s_two (n : Nat) : (u32s [n % 4294967296, n / 4294967296]).toArray = #[Value.int .u32 ((n : Int) % 4294967296), Value.int .u32 ((n : Int) / 4294967296)] := by
  simp [u32s]
theorem own_two (w : World) (e : TypeId) {n : Nat} (h : n < 18446744073709551616) :
    Own (w.alloc (.cells #[Value.int .u32 ((n : Int) % 4294967296), Value.int .u32 ((n : Int) / 4294967296)] e)) w.heap.size e (some ⟨w.heap.size, 0, none⟩) 2 2 [n % 4294967296, n / 4294967296] := by
  rw [← u32s_two]
  exact Own.lit w (base := w.heap.size) e _ 2 rfl (Nat.le_refl _) (by decide) (lims_two h)

theorem RetOwn.later {e : TypeId} {N : Nat} {w w1 : World} {x : Ending} {w' : World} (h : RetOwn e N w1 x w') (hb : Below w.heap.size w w1) : RetOwn e N w x w' := by
  obtain ⟨A, n, c, hx, ho, hb'⟩ := h
  exact ⟨A, n, c, hx, ho.mono hb.size, below_step hb' hb⟩
theorem RetNat.later {N : Nat} {w w1 : World} {x : Ending} {w' : World} (h : RetNat N w1 x w') (hb : Below w.heap.size w w1) : RetNat N w x w' := by
  obtain ⟨A, n, c, hx, ho, hb'⟩ := h
  exact ⟨A, n, c, hx, ho, below_step hb' hb⟩

set_option maxHeartbeats 400000 in
theorem of_own (x : Nat) (w : World) (hx : x < 18446744073709551616) :
    Calls Tryd.prog 57 #[.int .u64 (x : Int)] w (RetOwn 40 x w) := by
  have ho := (own_two w 40 hx).rd
  have hb := below_alloc w (.cells #[Value.int .u32 ((x : Int) % 4294967296), Value.int .u32 ((x : Int) / 4294967296)] 40)
  have HV := hide (val_two x)
  go_enter Tryd.func57, Tryd.ntmps57
  go_wp2_with fail
  refine (trim_own _ 2 2 _ _ ho (by omega)).mono ?_
  rintro e w1 ⟨A, n, c, rfl, h1, h2⟩
  rw [HV.out] at h1
  go_wp2
  go_ret
  exact RetOwn.later ⟨A, n, c, rfl, h1, h2⟩ hb
theorem of_any (x : Nat) (w : World) (hx : x < 18446744073709551616) :
    Calls Tryd.prog 57 #[.int .u64 (x : Int)] w (RetNat x w) := (of_own x w hx).mono fun _ _ h => h.nat

/-- A call that returns v and leaves the world as it is. -/
def Gives (v : Value) (w : World) (x : Ending) (w' : World) : Prop := x = .returned v ∧ w' = w

set_option maxHeartbeats 400000 in
theorem bits_any (A : Option Addr) (n c : Nat) (l : List Nat) (w : World) (h : Rd w A n c l) (hn : n ≤ 1073741824) :
    Calls Tryd.prog 44 #[.slice A n c] w (Gives (.int .i64 (nbits (val l) : Nat)) w) := by
  have hk := keep_le l n
  have hcut := h.cut hk
  have e1 : l.take (keep l n) = limbs (val l) := by rw [← h.len]; exact take_keep h.lims
  have hv : val (l.take (keep l n)) = val l := by rw [e1, val_limbs]
  by_cases hz : keep l n = 0
  · have e2 : val l = 0 := by rw [← hv, hz]; rfl
    have H2 := hide e2
    have HZ := hide hz
    clear e1 hv e2 hz
    go_enter Tryd.func44, Tryd.ntmps44
    go_wp2_with fail
    refine (short_any A n c l _ h).mono ?_
    rintro e w' ⟨rfl, rfl⟩
    rw [HZ.out]
    go_wp2
    go_ret
    rw [H2.out]
    exact ⟨rfl, rfl⟩
  · obtain ⟨m, hm⟩ : ∃ m, keep l n = m + 1 := ⟨keep l n - 1, by omega⟩
    rw [hm] at hcut hv
    have hcell := hcut.at (k := m) (by omega)
    obtain ⟨b, off, rfl, hb, hcell⟩ := hcell
    have hlen := hcut.len
    have hlims := hcut.lims
    have hc0 := canon_take_keep l n (by rw [h.len]; exact Nat.le_refl n)
    rw [hm] at hc0
    have htop : lim (l.take (m + 1)) m ≠ 0 := by
      have hne : l.take (m + 1) ≠ [] := by intro h0; rw [h0] at hlen; simp at hlen
      have := hc0 hne
      rw [List.getLast_eq_getElem] at this
      rw [lim_eq, List.getElem?_eq_getElem (by omega)]
      simpa [hlen] using this
    have hx : lim (l.take (m + 1)) m < 4294967296 := hlims.getD m
    have ht := nbits_top hlims hlen htop
    have hnb : nbits (lim (l.take (m + 1)) m) ≤ 32 := nbits_le (by omega)
    have hmn : m + 1 ≤ n := by omega
    rw [hv] at ht
    have HT := hide ht
    have HM := hide hm
    clear e1 hv hz hm ht hlen hc0 htop hk hlims
    generalize lim (l.take (m + 1)) m = top at *
    go_enter Tryd.func44, Tryd.ntmps44
    go_wp2_with fail
    refine (short_any _ n c l _ h).mono ?_
    rintro e w' ⟨rfl, rfl⟩
    rw [HM.out]
    go_wp2_with (go_at_call 56; refine (len32_any top _ hx).mono ?_; rintro e w' ⟨rfl, rfl⟩)
    go_ret
    rw [HT.out]
    exact ⟨by simp, rfl⟩

set_option maxHeartbeats 400000 in
theorem rbits_any (A : Option Addr) (n c : Nat) (l : List Nat) (w : World) (h : Rd w A n c l) (hn : n ≤ 1073741824) :
    Calls Tryd.prog 59 #[.slice A n c] w (Makes (.int .i64 (nbits (val l) : Nat)) w) := by
  go_enter Tryd.func59, Tryd.ntmps59
  go_wp2_with fail
  refine (rtrim_any A n c l _ h hn).mono ?_
  rintro e w1 ⟨A1, n1, c1, rfl, h1, hb1⟩
  by_cases hz : n1 = 0
  · subst hz
    have e2 : val l = 0 := limbs_eq_nil.1 (List.eq_nil_of_length_eq_zero h1.len)
    have H2 := hide e2
    clear e2
    go_wp2
    go_ret
    rw [H2.out]
    exact ⟨rfl, hb1⟩
  · obtain ⟨m, rfl⟩ : ∃ m, n1 = m + 1 := ⟨n1 - 1, by omega⟩
    obtain ⟨b, off, rfl, hb, hcell⟩ := h1.at (k := m) (by omega)
    have hlen := h1.len
    have hlims := h1.lims
    have htop : lim (limbs (val l)) m ≠ 0 := by
      have hne : limbs (val l) ≠ [] := by intro h0; rw [h0] at hlen; simp at hlen
      have := canon_limbs (val l) hne
      rw [List.getLast_eq_getElem] at this
      rw [lim_eq, List.getElem?_eq_getElem (by omega)]
      simpa [hlen] using this
    have ht := nbits_top hlims hlen htop
    rw [val_limbs] at ht
    have hx := hlims.getD m
    have hmn : m ≤ 1073741824 := by
      have := length_limbs_val_le h.lims
      have := h.len
      omega
    have HT := hide ht
    clear hlen hlims htop ht hz
    generalize lim (limbs (val l)) m = top at *
    have hnb : nbits top ≤ 32 := nbits_le (by omega)
    go_wp2_with fail
    go_loop [3, 4] (fun a b => ∃ j t : Nat, a = .int .i64 (j : Int) ∧ b = .int .u32 (t : Int) ∧ t < 4294967296 ∧ j ≤ 34359738368 + 32 ∧ j + nbits t = 32 * m + nbits top) (fun _ b => (intOf b).toNat)
    case atStart => exact ⟨32 * m, top, by go_num, rfl, hx, by omega, rfl⟩
    case round =>
      obtain ⟨j, t, rfl, rfl, ht, hj, hjt⟩ := hrel
      have HJ := hide hjt
      clear hjt
      by_cases h0 : t = 0
      · subst h0
        go_wp2
        go_ret
        have := HJ.out
        rw [nbits_zero] at this
        rw [HT.out]
        exact ⟨by rw [← this]; simp, hb1⟩
      · have hpos : 0 < t := by omega
        have hhalf := nbits_half h0
        have hb2 : nbits (t / 2) ≤ 32 := nbits_le (by omega)
        have HH := hide hhalf
        clear hhalf h0
        go_wp2
        go_round
        case rel => exact ⟨j + 1, t / 2, by go_num, by go_num, by omega, by have := HJ.out; have := HH.out; omega, by have := HJ.out; have := HH.out; omega⟩
        case measure => simp [intOf]; omega

set_option maxHeartbeats 400000 in
theorem limb_any (A : Option Addr) (n c : Nat) (l : List Nat) (k : Nat) (w : World) (h : Rd w A n c l) :
    Calls Tryd.prog 73 #[.slice A n c, .int .i64 (k : Int)] w (Gives (.int .u64 (lim l k : Nat)) w) := by
  by_cases hlt : k < n
  · obtain ⟨b, off, rfl, hb, hcell⟩ := h.at hlt
    have hx := h.lims.getD k
    go_enter Tryd.func73, Tryd.ntmps73
    go_wp2
    go_ret
    exact ⟨by simp, rfl⟩
  · have e0 : lim l k = 0 := getD_ge l k (by rw [h.len]; omega)
    have H0 := hide e0
    clear e0
    go_enter Tryd.func73, Tryd.ntmps73
    go_wp2
    go_ret
    rw [H0.out]
    exact ⟨rfl, rfl⟩

/-- Int's two results. -/
def intNum (N : Nat) : Int := if N < 9223372036854775808 then (N : Int) else 0
def intOk (N : Nat) : Bool := decide (N < 9223372036854775808)
theorem int_yes {N : Nat} (h : N < 9223372036854775808) : Value.tuple #[.int .i64 (intNum N), .bool (intOk N)] = .tuple #[.int .i64 (N : Int), .bool true] := by
  rw [intNum, if_pos h, intOk, decide_eq_true h]
theorem int_no {N : Nat} (h : ¬ N < 9223372036854775808) : Value.tuple #[.int .i64 (intNum N), .bool (intOk N)] = .tuple #[.int .i64 0, .bool false] := by
  rw [intNum, if_neg h, intOk, decide_eq_false h]

theorem ret_int2 {a b : Int} (h : a = b) (x : Value) : Ending.returned (.tuple #[.int .i64 a, x]) = .returned (.tuple #[.int .i64 b, x]) := by rw [h]

theorem shl_or (x y : Nat) (hx : x < 2147483648) (hy : y < 4294967296) : bits .or .i64 ((x : Int) * 4294967296) (y : Int) = ((x * 4294967296 + y : Nat) : Int) := by
  have h1 : (x : Int) * 4294967296 = ((x * 4294967296 : Nat) : Int) := by simp
  have h2 : x * 4294967296 ||| y = x * 4294967296 + y := by
    have := Nat.shiftLeft_add_eq_or_of_lt (a := x) (i := 32) (b := y) hy
    rw [Nat.shiftLeft_eq] at this
    exact this.symm
  rw [h1]
  show IntKind.i64.wrap ((BitVec.ofInt 64 ((x * 4294967296 : Nat) : Int) ||| BitVec.ofInt 64 (y : Int)).toNat : Int) = _
  rw [BitVec.toNat_or, BitVec.ofInt_natCast, BitVec.ofInt_natCast, BitVec.toNat_ofNat, BitVec.toNat_ofNat, Nat.mod_eq_of_lt (by omega), Nat.mod_eq_of_lt (by omega), h2, IntKind.wrap_i64]
  omega

end Go.Proofs.YtfggecdgnidhfaaDoor
