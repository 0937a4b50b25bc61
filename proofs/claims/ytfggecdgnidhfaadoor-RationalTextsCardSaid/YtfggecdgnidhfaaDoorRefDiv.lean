/- The walks of the reference's shift, DivMod, Zero and Gcd. -/
import Derived.Test.YtfggecdgnidhfaaDoorTwo
import Derived.Test.YtfggecdgnidhfaaDoorCmp
import Derived.Test.YtfggecdgnidhfaaDoorBinom
namespace Go.Proofs.YtfggecdgnidhfaaDoor
open Go.RowKit

/-- A shift to the left, i limbs of the argument done: M is the power of two, z the limbs of zero ahead. -/
def ShlAt (M : Nat) (a o : List Nat) (i c : Nat) : Prop := val o + 4294967296 ^ o.length * c = M * val (a.take i)

theorem shlAt_step {M S z : Nat} {a o : List Nat} {i c : Nat} (h : ShlAt M a o i c) (hM : M = 4294967296 ^ z * S) (ho : o.length = z + i) (hi : i < a.length) (s : Nat) (hs : s = lim a i * S + c) :
    ShlAt M a (o ++ [s % 4294967296]) (i + 1) (s / 4294967296) := by
  unfold ShlAt at h ⊢
  have h1 := carry_step h hs
  have e1 : val (o ++ [s % 4294967296]) = val o + 4294967296 ^ o.length * (s % 4294967296) := by rw [val_append, val_cons, val_nil]; simp
  have e2 : (o ++ [s % 4294967296]).length = o.length + 1 := by simp
  rw [e1, e2, Nat.pow_succ 4294967296 o.length, h1, val_take_succ a i hi, Nat.mul_add, ho, hM, Nat.pow_add]
  congr 1
  simp only [Nat.mul_comm, Nat.mul_left_comm, Nat.mul_assoc]

theorem shlAt_start {M : Nat} {a : List Nat} (q : Nat) : ShlAt M a (List.replicate q 0) 0 0 := by
  unfold ShlAt; rw [val_replicate]; simp [val_nil]
theorem shlAt_end {M : Nat} {a o : List Nat} {i c : Nat} (h : ShlAt M a o i c) (hi : a.length ≤ i) : val (o ++ [c]) = val a * M := by
  unfold ShlAt at h
  rw [List.take_of_length_le hi] at h
  rw [val_append, val_cons, val_nil, Nat.mul_comm (val a), ← h]
  simp
theorem shl_u64 {x r t : Nat} (hx : x < 4294967296) (hr : r < 4294967296) (ht : t < 32) : x * 2 ^ t + r < 18446744073709551616 ∧ IntKind.u64.wrap (IntKind.u64.wrap ((x : Int) * 2 ^ t) + (r : Int)) = ((x * 2 ^ t + r : Nat) : Int) := by
  have h1 : 2 ^ t ≤ 2 ^ 31 := Nat.pow_le_pow_right (by omega) (by omega)
  have h2 : x * 2 ^ t ≤ 4294967295 * 2 ^ 31 := Nat.mul_le_mul (by omega) h1
  have e : (x : Int) * 2 ^ t = ((x * 2 ^ t : Nat) : Int) := by simp
  refine ⟨by omega, ?_⟩
  rw [e]
  generalize x * 2 ^ t = y at h2
  rw [IntWalk.u64_in (y : Int) (by omega), IntWalk.u64_in _ (by omega)]
  simp

set_option maxHeartbeats 1000000 in
theorem rshift_any (A : Option Addr) (n c : Nat) (l : List Nat) (k : Nat) (w : World) (h : Rd w A n c l) (hn : n ≤ 100000) (hk : k ≤ 10000000) :
    Calls Tryd.prog 60 #[.slice A n c, .int .i64 (k : Int)] w (RetNat (val l * 2 ^ k) w) := by
  obtain ⟨i0, hi, hz0, hz1, hz2⟩ := info_parts Tryd.infoU32
  obtain ⟨q, hq⟩ : ∃ q : Nat, (k : Int) / 32 = (q : Int) := ⟨k / 32, by omega⟩
  obtain ⟨t, ht⟩ : ∃ t : Nat, (k : Int) % 32 = (t : Int) := ⟨k % 32, by omega⟩
  have ht32 : t < 32 := by omega
  have hq32 : q ≤ k := by omega
  have HK := hide (show k = 32 * q + t by omega)
  go_enter Tryd.func60, Tryd.ntmps60
  go_wp2_with (at_make; refine wpList_make_rd _ rfl _ _ _ 40 rfl i0 Tryd.underlying23 hi hz0 hz1 hz2 _ _ _ _ q rfl rfl rfl rfl (by omega) ?_; intro w1 hown1 hb1)
  have hz := shlAt_start (M := 4294967296 ^ q * 2 ^ t) (a := l) q
  go_loopw [5, 6, 7] (fun v cc i wr => ∃ (j r : Nat) (A1 : Option Addr) (n1 c1 : Nat) (o : List Nat), j ≤ n ∧ n1 = q + j ∧ i = .int .i64 (j : Int) ∧ cc = .int .u64 (r : Int) ∧ r < 4294967296 ∧ v = .slice A1 n1 c1 ∧ Own wr w.heap.size 40 A1 n1 c1 o ∧ ShlAt (4294967296 ^ q * 2 ^ t) l o j r ∧ Below w.heap.size w wr) (fun _ _ i _ => n - (intOf i).toNat)
  case atStart => exact ⟨0, 0, _, _, _, _, by omega, rfl, rfl, rfl, by omega, rfl, hown1, hz, hb1⟩
  case round =>
    clear hz
    obtain ⟨j, r, A1, n1, c1, o, hj, hn1, rfl, rfl, hr, rfl, hown, hd, hS⟩ := hrel
    have HN := hide hn1
    have hn2 : n1 ≤ 10100000 := by omega
    clear hn1
    have HD := hide hd
    have hsz := hS.size
    clear hd
    by_cases hlt : j < n
    · obtain ⟨b, off, rfl, hb, hcell⟩ := (h.below hS).at (k := j) (by omega)
      have hx := h.lims.getD j
      obtain ⟨hs1, hs2⟩ := shl_u64 hx hr ht32
      obtain ⟨sv, hsv⟩ : ∃ sv, sv = lim l j * 2 ^ t + r := ⟨_, rfl⟩
      rw [← hsv] at hs1 hs2
      have HST := hide (shlAt_step HD.out rfl (by rw [hown.len, HN.out]) (by rw [h.len]; exact hlt) sv hsv)
      clear hsv
      have hlit := rd_lit (w := wr) (x := sv % 4294967296) wr.heap.size rfl ((sv : Int) % 4294967296) (by omega) (Nat.mod_lt _ (by omega))
      have hba := hS.alloc hsz (.cells #[Value.int .u32 ((sv : Int) % 4294967296)] 40)
      have hown2 := hown.below (below_alloc wr (.cells #[Value.int .u32 ((sv : Int) % 4294967296)] 40))
      go_wp2_with (at_builtin; refine wpList_append_rd _ rfl _ _ _ 40 rfl i0 Tryd.underlying23 hi hz0 hz1 hz2 w.heap.size _ _ _ _ rfl hown2 _ 1 1 _ rfl hlit (by omega) (by simp; omega) ?_; intro A3 c3 w3 hown3 hb3)
      go_roundw
      case rel => exact ⟨j + 1, sv / 4294967296, A3, n1 + 1, c3, _, by omega, by rw [HN.out]; omega, by go_num, by simp, by omega, rfl, hown3, HST.out, hba.trans hb3⟩
      case measure => simp [intOf]; omega
    · obtain rfl : j = n := by omega
      have HE := hide (shlAt_end HD.out (by rw [h.len]; exact Nat.le_refl _))
      have hpow : 4294967296 ^ q * 2 ^ t = 2 ^ k := by rw [HK.out, Nat.pow_add, Nat.pow_mul]
      have HP := hide hpow
      clear hpow
      have hlit := rd_lit (w := wr) (x := r) wr.heap.size rfl (r : Int) rfl hr
      have hba := hS.alloc hsz (.cells #[Value.int .u32 (r : Int)] 40)
      have hown2 := hown.below (below_alloc wr (.cells #[Value.int .u32 (r : Int)] 40))
      go_wp2_with (first
        | (at_builtin; refine wpList_append_rd _ rfl _ _ _ 40 rfl i0 Tryd.underlying23 hi hz0 hz1 hz2 w.heap.size _ _ _ _ rfl hown2 _ 1 1 _ rfl hlit (by omega) (by simp; omega) ?_; intro A3 c3 w3 hown3 hb3)
        | (refine (rtrim_any _ _ _ _ _ hown3.rd (by omega)).mono ?_; rintro e w4 ⟨A4, n4, c4, rfl, h4, hb4⟩; rw [HE.out, HP.out] at h4; have hS4 := below_step hb4 (hba.trans hb3)))
      go_ret
      exact ⟨_, _, _, rfl, h4, hS4⟩

theorem rzero_any (A : Option Addr) (n c : Nat) (l : List Nat) (w : World) (h : Rd w A n c l) (hn : n ≤ 1000000) (q : Bool) (hq : decide (val l = 0) = q) :
    Calls Tryd.prog 47 #[.slice A n c] w (Makes (.bool q) w) := by
  go_enter Tryd.func47, Tryd.ntmps47
  go_wp2_with fail
  refine (rtrim_any _ _ _ _ _ h (by omega)).mono ?_
  rintro e w1 ⟨A1, n1, c1, rfl, h1, hb1⟩
  have hlen := h1.len
  cases q with
  | true =>
    have h0 : val l = 0 := of_decide_eq_true hq
    rw [h0, limbs_zero] at hlen
    obtain rfl : n1 = 0 := by simpa using hlen.symm
    clear hlen hq
    go_wp2
    go_ret
    exact ⟨by simp, hb1⟩
  | false =>
    have h0 : val l ≠ 0 := of_decide_eq_false hq
    have h2 : n1 ≠ 0 := by
      intro h9
      rw [h9] at hlen
      have h7 := List.eq_nil_of_length_eq_zero hlen
      have h6 : val (limbs (val l)) = 0 := by rw [h7]; rfl
      rw [val_limbs] at h6
      exact h0 h6
    have h3 : ¬ (n1 : Int) = 0 := by omega
    clear hlen hq h0
    go_wp2
    go_ret
    exact ⟨by simp [h2], hb1⟩

theorem nbits_le_len {w : World} {A : Option Addr} {n c : Nat} {l : List Nat} (h : Rd w A n c l) : nbits (val l) ≤ 32 * n := by
  refine nbits_le ?_
  rw [← pow32]
  exact val_lt_len h
theorem len_of_lt {w : World} {A : Option Addr} {n c N K : Nat} (h : Rd w A n c (limbs N)) (hN : N < 4294967296 ^ K) : n ≤ K := by
  rw [← h.len]; exact length_limbs_le hN
theorem pow2_lt_limb {i n : Nat} (h : i < 32 * n) : 2 ^ i < 4294967296 ^ n := by
  rw [pow32]; exact Nat.pow_lt_pow_right (by omega) h

/-- The two results: quotient and rest. -/
def RetDiv (q r : Nat) (w : World) (x : Ending) (w' : World) : Prop :=
  ∃ A n c B m d, x = .returned (.tuple #[.slice A n c, .slice B m d]) ∧ Rd w' A n c (limbs q) ∧ Rd w' B m d (limbs r) ∧ Below w.heap.size w w'

set_option maxHeartbeats 2000000 in
theorem rdivmod_any (A : Option Addr) (n c : Nat) (l : List Nat) (B : Option Addr) (m d : Nat) (k : List Nat) (w : World) (h : Rd w A n c l) (h' : Rd w B m d k) (hn : n ≤ 1000) (hm : m ≤ 1000) (hk : val k ≠ 0) :
    Calls Tryd.prog 49 #[.slice A n c, .slice B m d] w (RetDiv (val l / val k) (val l % val k) w) := by
  have hla := nbits_le_len h
  have hva := hide (val_lt_len h)
  have hvb := hide (val_lt_len h')
  go_enter Tryd.func49, Tryd.ntmps49
  go_wp2_with fail
  refine (rtrim_any _ _ _ _ _ h (by omega)).mono ?_
  rintro e w1 ⟨A1, n1, c1, rfl, h1, hb1⟩
  replace h := h.below hb1
  replace h' := h'.below hb1
  go_wp2_with fail
  refine (rbits_any _ _ _ _ _ h (by omega)).mono ?_
  rintro e w2 ⟨rfl, hb2⟩
  replace h := h.below hb2
  replace h' := h'.below hb2
  replace h1 := h1.below hb2
  have hlb := nbits_le_len h'
  go_wp2_with fail
  refine (rbits_any _ _ _ _ _ h' (by omega)).mono ?_
  rintro e w3 ⟨rfl, hb3⟩
  replace h' := h'.below hb3
  replace h1 := h1.below hb3
  have hS := below_step hb3 (below_step hb2 hb1)
  clear h hb1 hb2 hb3
  obtain ⟨x, hx⟩ : ∃ x, x = nbits (val l) := ⟨_, rfl⟩
  obtain ⟨y, hy⟩ : ∃ y, y = nbits (val k) := ⟨_, rfl⟩
  have HS0 : Hid (SubDivAt (val l) (val k) 0 (val l) ((x : Int) - (y : Int) + 1).toNat) := by
    by_cases hlt : x < y
    · have e0 : ((x : Int) - (y : Int) + 1).toNat = 0 := by omega
      rw [Hid, e0]; exact subDiv_small (by omega)
    · have e0 : ((x : Int) - (y : Int) + 1).toNat = (x - y) + 1 := by omega
      rw [Hid, e0]; exact subDiv_start hk (by omega)
  have hy1 : 1 ≤ y := by
    have := mt (nbits_eq_zero (n := val k)).mp hk
    omega
  rw [← hx] at hla ⊢
  rw [← hy] at hlb ⊢
  clear hx hy
  go_wp2_with fail
  go_loopw [4, 5, 7] (fun qv rv i wr => ∃ (z : Int) (Q R : Nat) (A2 : Option Addr) (n2 c2 : Nat) (A3 : Option Addr) (n3 c3 : Nat), -100000 ≤ z ∧ z < 32 * (n : Int) ∧ i = .int .i64 z ∧ qv = .slice A2 n2 c2 ∧ rv = .slice A3 n3 c3 ∧ Rd wr A2 n2 c2 (limbs Q) ∧ Rd wr A3 n3 c3 (limbs R) ∧ SubDivAt (val l) (val k) Q R (z + 1).toNat ∧ Rd wr B m d k ∧ Below w.heap.size w wr) (fun _ _ i _ => (intOf i + 1).toNat)
  case atStart => exact ⟨(x : Int) - (y : Int), 0, val l, _, 0, 0, A1, n1, c1, by omega, by omega, rfl, rfl, rfl, by rw [limbs_zero]; exact Rd.nil _, h1, HS0.out, h', hS⟩
  case round =>
    clear h1 h' hS HS0
    obtain ⟨z, Q, R, A2, n2, c2, A3, n3, c3, hz1, hz2, rfl, rfl, rfl, h2, h3, hsd, h', hS⟩ := hrel
    have hQle : Q ≤ val l := by
      rw [hsd.1]
      exact Nat.le_trans (Nat.le_mul_of_pos_right Q (Nat.pos_of_ne_zero hk)) (Nat.le_add_right _ _)
    have hRle : R ≤ val l := by rw [hsd.1]; exact Nat.le_add_left _ _
    have hn2 : n2 ≤ n := len_of_lt h2 (Nat.lt_of_le_of_lt hQle hva.out)
    have hn3 : n3 ≤ n := len_of_lt h3 (Nat.lt_of_le_of_lt hRle hva.out)
    have HD := hide hsd
    clear hsd hQle hRle
    by_cases hneg : z < 0
    · have hg : ¬ (0 : Int) ≤ z := by omega
      have e0 : (z + 1).toNat = 0 := by omega
      have hd := HD.out
      rw [e0] at hd
      obtain ⟨r1, r2⟩ := subDiv_end hd
      have HR1 := hide r1
      have HR2 := hide r2
      clear hd r1 r2 e0
      go_wp2_with fail
      refine (rtrim_any _ _ _ _ _ h2 (by omega)).mono ?_
      rintro e w4 ⟨A4, n4, c4, rfl, h4, hb4⟩
      rw [val_limbs] at h4
      replace h3 := h3.below hb4
      go_wp2
      go_ret2
      exact ⟨_, _, _, _, _, _, rfl, by rw [← HR1.out]; exact h4, by rw [← HR2.out]; exact h3, below_step hb4 hS⟩
    obtain ⟨j, rfl⟩ := Int.eq_ofNat_of_zero_le (show 0 ≤ z by omega)
    have e0 : ((j : Int) + 1).toNat = j + 1 := by omega
    have hd := HD.out
    rw [e0] at hd
    have HD2 := hide hd
    clear hd e0
    have hj : j < 32 * n := by omega
    have hp2 := hide (pow2_lt_limb hj)
    go_wp2_with fail
    refine (rshift_any _ _ _ _ j _ h' (by omega) (by omega)).mono ?_
    rintro e w4 ⟨A4, n4, c4, rfl, h4, hb4⟩
    have hn4 : n4 ≤ m + n := len_of_lt h4 (mul_lt_pow hvb.out hp2.out)
    replace h2 := h2.below hb4
    replace h3 := h3.below hb4
    replace h' := h'.below hb4
    have hS4 := below_step hb4 hS
    clear hb4 hS
    by_cases hle : val k * 2 ^ j ≤ R
    · have hc : Hid (0 ≤ cmpV R (val k * 2 ^ j)) := by unfold Hid cmpV; rw [if_neg (by omega)]; split <;> omega
      have hcall := rcmp_any _ _ _ _ _ _ _ _ _ h3 h4
      rw [val_limbs, val_limbs] at hcall
      have HY := hide (subDiv_yes HD2.out hle)
      obtain ⟨cv, hcv⟩ : ∃ cv, cv = cmpV R (val k * 2 ^ j) := ⟨_, rfl⟩
      rw [← hcv] at hcall
      have hc0 : 0 ≤ cv := by rw [hcv]; exact hc.out
      have HLE := hide hle
      clear hcv hc hle
      go_wp2_with fail
      refine hcall.mono ?_
      rintro e w5 ⟨rfl, rfl⟩
      clear hcall
      have hn5 : n3 ≤ 1000000 := by omega
      go_wp2_with fail
      refine (rsub_any _ _ _ _ _ _ _ _ _ h3 h4 (by omega) (by rw [val_limbs, val_limbs]; exact HLE.out)).mono ?_
      rintro e w6 ⟨A6, n6, c6, rfl, h6, hb6⟩
      rw [val_limbs, val_limbs] at h6
      replace h2 := h2.below hb6
      replace h' := h'.below hb6
      have hS6 := below_step hb6 hS4
      clear h3 h4 hb6 hS4
      have hone := rd_lit1 (w := w6) (x := 1) (w6.heap.size) rfl 1 rfl (by omega) (by omega)
      have hba := below_alloc w6 (.cells #[Value.int .u32 1] 40)
      replace h2 := h2.below hba
      replace h' := h'.below hba
      replace h6 := h6.below hba
      have hS7 := below_step hba hS6
      clear hba hS6
      go_wp2_with fail
      refine (rshift_any _ _ _ _ j _ hone (by omega) (by omega)).mono ?_
      rintro e w7 ⟨A7, n7, c7, rfl, h7, hb7⟩
      rw [val_limbs, Nat.one_mul] at h7
      have hn7 : n7 ≤ n := len_of_lt h7 hp2.out
      replace h2 := h2.below hb7
      replace h' := h'.below hb7
      replace h6 := h6.below hb7
      have hS8 := below_step hb7 hS7
      clear hb7 hS7 hone
      go_wp2_with fail
      refine (radd_any _ _ _ _ _ _ _ _ _ h2 h7 (by omega) (by omega)).mono ?_
      rintro e w8 ⟨A8, n8, c8, rfl, h8, hb8⟩
      rw [val_limbs, val_limbs] at h8
      replace h' := h'.below hb8
      replace h6 := h6.below hb8
      have hS9 := below_step hb8 hS8
      clear hb8 hS8 h2 h7
      go_wp2
      go_roundw
      case rel => exact ⟨(j : Int) - 1, _, _, _, _, _, _, _, _, by omega, by omega, by go_num, rfl, rfl, h8, h6, by rw [show ((j : Int) - 1 + 1).toNat = j by omega]; exact HY.out, h', hS9⟩
      case measure => simp [intOf]
    · have hc : Hid (cmpV R (val k * 2 ^ j) < 0) := by unfold Hid cmpV; rw [if_pos (by omega)]; omega
      have hcall := rcmp_any _ _ _ _ _ _ _ _ _ h3 h4
      rw [val_limbs, val_limbs] at hcall
      have HY := hide (subDiv_no HD2.out (by omega))
      obtain ⟨cv, hcv⟩ : ∃ cv, cv = cmpV R (val k * 2 ^ j) := ⟨_, rfl⟩
      rw [← hcv] at hcall
      have hc0 : ¬ 0 ≤ cv := by rw [hcv]; exact Int.not_le.mpr hc.out
      clear hcv hc hle
      go_wp2_with fail
      refine hcall.mono ?_
      rintro e w5 ⟨rfl, rfl⟩
      clear hcall
      go_wp2
      go_roundw
      case rel => exact ⟨(j : Int) - 1, _, _, _, _, _, _, _, _, by omega, by omega, by go_num, rfl, rfl, h2, h3, by rw [show ((j : Int) - 1 + 1).toNat = j by omega]; exact HY.out, h', hS4⟩
      case measure => simp [intOf]

theorem Rd.unique {w : World} {A : Option Addr} {n c : Nat} {l k : List Nat} (h : Rd w A n c l) (h' : Rd w A n c k) : l = k := by
  refine List.ext_getElem (by rw [h.len, h'.len]) fun j hj hj' => ?_
  have hjn : j < n := by rw [← h.len]; exact hj
  obtain ⟨b, off, e, _, h1⟩ := h.at hjn
  obtain ⟨b', off', e', _, h2⟩ := h'.at hjn
  rw [e] at e'
  injection e' with e'
  injection e' with e1 e2
  subst e1 e2
  rw [h1] at h2
  have h3 : lim l j = lim k j := by
    injection h2 with h2
    injection h2 with h2 h4
    omega
  rw [lim_eq, lim_eq] at h3
  simpa [hj, hj'] using h3
open Classical in
/-- The number that a slice reads as, if it reads as limbs. -/
noncomputable def numAt (w : World) : Value → Nat
  | .slice A n c => if h : ∃ l, Rd w A n c l then val h.choose else 0
  | _ => 0
theorem numAt_eq {w : World} {A : Option Addr} {n c : Nat} {l : List Nat} (h : Rd w A n c l) : numAt w (.slice A n c) = val l := by
  have hex : ∃ l, Rd w A n c l := ⟨l, h⟩
  unfold numAt
  simp only
  rw [dif_pos hex, hex.choose_spec.unique h]

set_option maxHeartbeats 1000000 in
theorem rgcd_any (A : Option Addr) (n c : Nat) (l : List Nat) (B : Option Addr) (m d : Nat) (k : List Nat) (w : World) (h : Rd w A n c l) (h' : Rd w B m d k) (hn : n ≤ 1000) (hm : m ≤ 1000) :
    Calls Tryd.prog 48 #[.slice A n c, .slice B m d] w (RetNat (Nat.gcd (val l) (val k)) w) := by
  go_enter Tryd.func48, Tryd.ntmps48
  go_wp2_with fail
  go_loopw [0, 1, 5, 6] (fun av bv _ _ wr => ∃ (A2 : Option Addr) (n2 c2 : Nat) (l2 : List Nat) (A3 : Option Addr) (n3 c3 : Nat) (l3 : List Nat), av = .slice A2 n2 c2 ∧ bv = .slice A3 n3 c3 ∧ n2 ≤ 1000 ∧ n3 ≤ 1000 ∧ Rd wr A2 n2 c2 l2 ∧ Rd wr A3 n3 c3 l3 ∧ Nat.gcd (val l2) (val l3) = Nat.gcd (val l) (val k) ∧ Below w.heap.size w wr) (fun _ bv _ _ wr => numAt wr bv)
  case atStart => exact ⟨A, n, c, l, B, m, d, k, rfl, rfl, hn, hm, h, h', rfl, Below.refl _ _⟩
  case round =>
    obtain ⟨A2, n2, c2, l2, A3, n3, c3, l3, rfl, rfl, hn2, hn3, h2, h3, hg, hS⟩ := hrel
    have HG := hide hg
    clear hg
    by_cases h0 : val l3 = 0
    · go_wp2_with fail
      refine (rzero_any _ _ _ _ _ h3 (by omega) true (decide_eq_true h0)).mono ?_
      rintro e w4 ⟨rfl, hb4⟩
      replace h2 := h2.below hb4
      have hS4 := below_step hb4 hS
      have HV : Hid (val l2 = Nat.gcd (val l) (val k)) := by rw [Hid, ← HG.out, h0, Nat.gcd_zero_right]
      clear hb4 hS h3 h0
      go_wp2_with fail
      refine (rtrim_any _ _ _ _ _ h2 (by omega)).mono ?_
      rintro e w5 ⟨A5, n5, c5, rfl, h5, hb5⟩
      go_wp2
      go_ret
      exact ⟨_, _, _, rfl, by rw [← HV.out]; exact h5, below_step hb5 hS4⟩
    · have hmeas := hide (numAt_eq h3)
      go_wp2_with fail
      refine (rzero_any _ _ _ _ _ h3 (by omega) false (decide_eq_false h0)).mono ?_
      rintro e w4 ⟨rfl, hb4⟩
      replace h2 := h2.below hb4
      replace h3 := h3.below hb4
      have hS4 := below_step hb4 hS
      clear hb4 hS
      go_wp2_with fail
      refine (rdivmod_any _ _ _ _ _ _ _ _ _ h2 h3 hn2 hn3 h0).mono ?_
      rintro e w5 ⟨A5, n5, c5, A6, n6, c6, rfl, -, h6, hb5⟩
      have hlt := Nat.mod_lt (val l2) (Nat.pos_of_ne_zero h0)
      have hn6 : n6 ≤ n3 := len_of_lt h6 (Nat.lt_trans hlt (val_lt_len h3))
      replace h3 := h3.below hb5
      have hS5 := below_step hb5 hS4
      have HV : Hid (Nat.gcd (val l3) (val (limbs (val l2 % val l3))) = Nat.gcd (val l) (val k)) := by
        rw [Hid, val_limbs, ← HG.out, Nat.gcd_comm (val l3), ← Nat.gcd_rec, Nat.gcd_comm]
      have hm6 := hide (numAt_eq h6)
      have hlt6 := hide hlt
      clear hb5 hS4 h2 h0 hlt
      go_wp2
      go_roundw
      case rel => exact ⟨A3, n3, c3, l3, A6, n6, c6, _, rfl, rfl, by omega, by omega, h3, h6, HV.out, hS5⟩
      case measure =>
        have e1 := hm6.out
        rw [val_limbs] at e1
        rw [e1, hmeas.out]
        exact hlt6.out
end Go.Proofs.YtfggecdgnidhfaaDoor
