/- The walks of nat.DivMod and nat.Gcd. -/
import Derived.Test.YtfggecdgnidhfaaDoorLong
namespace Go.Proofs.YtfggecdgnidhfaaDoor
open Go.RowKit

/-- DivMod's three results. -/
def RetDM (q r : Nat) (err : Int) (w : World) (x : Ending) (w' : World) : Prop :=
  ∃ A n c B m d, x = .returned (.tuple #[.slice A n c, .slice B m d, .int .i64 err]) ∧ Rd w' A n c (limbs q) ∧ Rd w' B m d (limbs r) ∧ Below w.heap.size w w'

theorem rd_nil_zero (w : World) : Rd w none 0 0 (limbs 0) := by rw [limbs_zero]; exact Rd.nil w

set_option maxHeartbeats 1000000 in
theorem divmod_zero (A : Option Addr) (n c : Nat) (l : List Nat) (B : Option Addr) (m d : Nat) (k : List Nat) (w : World) (h : Rd w A n c l) (h' : Rd w B m d k) (hy : val k = 0) :
    Calls Tryd.prog 46 #[.slice A n c, .slice B m d] w (RetDM 0 0 7 w) := by
  go_enter Tryd.func46, Tryd.ntmps46
  go_wp2_with fail
  refine (short_lim _ _ _ _ _ h).mono ?_
  rintro e w1 ⟨n1, rfl, h1, hn1, rfl⟩
  go_wp2_with fail
  refine (short_lim _ _ _ _ _ h').mono ?_
  rintro e w1 ⟨m1, rfl, h2, hm1, rfl⟩
  rw [hy, limbs_zero] at h2
  have hlen := h2.len
  obtain rfl : m1 = 0 := by simpa using hlen.symm
  clear hlen hy
  go_wp2
  go_ret3
  exact ⟨none, 0, 0, none, 0, 0, rfl, rd_nil_zero _, rd_nil_zero _, Below.refl _ _⟩

theorem limbs_len_pos {x : Nat} (h : x ≠ 0) : (limbs x).length ≠ 0 := by
  intro h0
  exact h (limbs_eq_nil.1 (List.eq_nil_of_length_eq_zero h0))

set_option maxHeartbeats 1000000 in
theorem divmod_ok (A : Option Addr) (n c : Nat) (l : List Nat) (B : Option Addr) (m d : Nat) (k : List Nat) (w : World) (h : Rd w A n c l) (h' : Rd w B m d k) (hn : n ≤ 10000) (_ : m ≤ 10000) (hy : val k ≠ 0) :
    Calls Tryd.prog 46 #[.slice A n c, .slice B m d] w (RetDM (val l / val k) (val l % val k) 0 w) := by
  go_enter Tryd.func46, Tryd.ntmps46
  go_wp2_with fail
  refine (short_lim _ _ _ _ _ h).mono ?_
  rintro e w1 ⟨n1, rfl, h1, hn1, rfl⟩
  go_wp2_with fail
  refine (short_lim _ _ _ _ _ h').mono ?_
  rintro e w1 ⟨m1, rfl, h2, hm1, rfl⟩
  have HL1 := hide h1.len
  have HL2 := hide h2.len
  have hm0 : m1 ≠ 0 := by rw [← HL2.out]; exact limbs_len_pos hy
  have HY := hide hy
  clear hy h h'
  generalize val l = x at *
  generalize val k = y at *
  have hq0 : ((m1 : Int) == 0) = false := by simp; omega
  have hcall := cmp_any _ _ _ _ _ _ _ _ _ h1 h2
  rw [val_limbs, val_limbs] at hcall
  by_cases hlt : x < y
  · have hc : cmpV x y < 0 := by rw [cmpV_lt hlt]; omega
    have HC := hide hc
    have HLT := hide hlt
    obtain ⟨cv, hcv⟩ : ∃ cv, cv = cmpV x y := ⟨_, rfl⟩
    rw [← hcv] at hcall hc
    clear hcv hlt
    go_wp2_with fail
    refine hcall.mono ?_
    rintro e w2 ⟨rfl, hb2⟩
    clear hcall
    go_wp2_with fail
    refine (trim_any _ _ _ _ _ (h1.below hb2) (by omega)).mono ?_
    rintro e w3 ⟨A3, n3, c3, rfl, h3, hb3⟩
    rw [val_limbs] at h3
    go_wp2
    go_ret3
    refine ⟨none, 0, 0, A3, n3, c3, rfl, ?_, ?_, below_step hb3 hb2⟩
    · rw [Nat.div_eq_of_lt HLT.out]; exact rd_nil_zero _
    · rw [Nat.mod_eq_of_lt HLT.out]; exact h3
  · have hc : ¬ cmpV x y < 0 := by unfold cmpV; rw [if_neg hlt]; split <;> omega
    obtain ⟨cv, hcv⟩ : ∃ cv, cv = cmpV x y := ⟨_, rfl⟩
    have hmn : m1 ≤ n1 := by
      rw [← HL1.out, ← HL2.out]; exact length_limbs_mono (by omega)
    rw [← hcv] at hcall hc
    clear hcv hlt
    by_cases h1m : m1 = 1
    · subst h1m
      obtain ⟨b, off, rfl, hbs, -⟩ := h2.at (k := 0) (by omega)
      have hy32 : y < 4294967296 := by
        have := lt_pow_length y
        rwa [HL2.out, Nat.pow_one] at this
      have hy0 : 0 < y := Nat.pos_of_ne_zero HY.out
      have hlim : lim (limbs y) 0 = y := by rw [getD_limbs_zero]; exact Nat.mod_eq_of_lt hy32
      have HLIM := hide hlim
      clear hlim hq0
      go_wp2_with fail
      refine hcall.mono ?_
      rintro e w2 ⟨rfl, hb2⟩
      have hcell := (h2.below hb2).cellAt (k := 0) (by omega)
      rw [HLIM.out, Nat.add_zero] at hcell
      replace h1 := h1.below hb2
      clear hcall
      go_wp2_with fail
      refine (digit_any _ _ _ _ y _ h1 (by omega) hy0 hy32).mono ?_
      rintro e w3 ⟨A3, n3, c3, rfl, h3, hb3⟩
      rw [val_limbs] at h3
      have hml := Nat.mod_lt x hy0
      clear hcell
      have hcall := fun (W : World) => of_any (x % y) W (by omega)
      obtain ⟨r, hr⟩ : ∃ r, r = x % y := ⟨_, rfl⟩
      have hri : ((x % y : Nat) : Int) = (r : Int) := by rw [hr]
      have HR := hide hr
      rw [← hr] at hcall hml
      rw [val_limbs, hri]
      clear hr hri
      go_wp2_with fail
      refine (hcall _).mono ?_
      rintro e w4 ⟨A4, n4, c4, rfl, h4, hb4⟩
      rw [HR.out] at h4
      clear hcall
      go_wp2
      go_ret3
      exact ⟨A3, n3, c3, A4, n4, c4, rfl, h3.below hb4, h4, below_step hb4 (below_step hb3 hb2)⟩
    · have hq1 : ((m1 : Int) == 1) = false := by simp; omega
      go_wp2_with fail
      refine hcall.mono ?_
      rintro e w2 ⟨rfl, hb2⟩
      clear hcall
      go_wp2_with fail
      refine (long_div _ _ _ _ _ _ _ _ _ (h1.below hb2) (h2.below hb2) (by omega) (by omega) hmn).mono ?_
      rintro e w3 ⟨A3, n3, c3, o3, A4, n4, c4, o4, rfl, h3, h4, hv3, hv4, hn3, hn4, hb3⟩
      have HV3 := hide hv3
      have HV4 := hide hv4
      clear hv3 hv4 hq0 hq1
      go_wp2_with fail
      refine (trim_any _ _ _ _ _ h3 (by omega)).mono ?_
      rintro e w5 ⟨A5, n5, c5, rfl, h5, hb5⟩
      rw [HV3.out] at h5
      go_wp2_with fail
      refine (trim_any _ _ _ _ _ (h4.below hb5) (by omega)).mono ?_
      rintro e w6 ⟨A6, n6, c6, rfl, h6, hb6⟩
      rw [HV4.out] at h6
      go_wp2
      go_ret3
      exact ⟨A5, n5, c5, A6, n6, c6, rfl, h5.below hb6, h6, below_step hb6 (below_step hb5 (below_step hb3 hb2))⟩

set_option maxHeartbeats 1000000 in
theorem gcd_any (A : Option Addr) (n c : Nat) (l : List Nat) (B : Option Addr) (m d : Nat) (k : List Nat) (w : World) (h : Rd w A n c l) (h' : Rd w B m d k) (hn : n ≤ 10000) (hm : m ≤ 10000) :
    Calls Tryd.prog 45 #[.slice A n c, .slice B m d] w (RetNat (Nat.gcd (val l) (val k)) w) := by
  go_enter Tryd.func45, Tryd.ntmps45
  go_wp2_with fail
  refine (short_lim _ _ _ _ _ h).mono ?_
  rintro e w1 ⟨n1, rfl, h1, hn1, rfl⟩
  go_wp2_with fail
  refine (short_lim _ _ _ _ _ h').mono ?_
  rintro e w1 ⟨m1, rfl, h2, hm1, rfl⟩
  go_wp2_with fail
  go_loopw [0, 1, 5, 6, 7, 15] (fun av bv _ _ _ _ wr => ∃ (A2 : Option Addr) (n2 c2 : Nat) (x : Nat) (A3 : Option Addr) (n3 c3 : Nat) (y : Nat), av = .slice A2 n2 c2 ∧ bv = .slice A3 n3 c3 ∧ n2 ≤ 10000 ∧ n3 ≤ 10000 ∧ Rd wr A2 n2 c2 (limbs x) ∧ Rd wr A3 n3 c3 (limbs y) ∧ Nat.gcd x y = Nat.gcd (val l) (val k) ∧ Below w1.heap.size w1 wr) (fun _ bv _ _ _ _ wr => numAt wr bv)
  case atStart => exact ⟨A, n1, _, _, B, m1, _, _, rfl, rfl, by omega, by omega, h1, h2, rfl, Below.refl _ _⟩
  case round =>
    clear h1 h2 h h'
    obtain ⟨A2, n2, c2, x, A3, n3, c3, y, rfl, rfl, hn2, hn3, h2, h3, hg, hS⟩ := hrel
    have HG := hide hg
    clear hg
    by_cases h0 : y = 0
    · subst h0
      have hl3 := h3.len
      rw [limbs_zero] at hl3
      obtain rfl : n3 = 0 := by simpa using hl3.symm
      have HV : Hid (x = Nat.gcd (val l) (val k)) := by rw [Hid, ← HG.out, Nat.gcd_zero_right]
      clear hl3
      go_wp2_with fail
      refine (trim_any _ _ _ _ _ h2 (by omega)).mono ?_
      rintro e w5 ⟨A5, n5, c5, rfl, h5, hb5⟩
      rw [val_limbs, HV.out] at h5
      go_wp2
      go_ret
      exact ⟨_, _, _, rfl, h5, below_step hb5 hS⟩
    · have hmeas := hide (numAt_eq h3)
      have hpos : 0 < n3 := by
        have := limbs_len_pos h0
        rw [h3.len] at this
        omega
      have hcall := divmod_ok _ _ _ _ _ _ _ _ _ h2 h3 hn2 hn3 (by rw [val_limbs]; exact h0)
      rw [val_limbs, val_limbs] at hcall
      have H0 := hide h0
      clear h0
      go_wp2_with fail
      refine hcall.mono ?_
      rintro e w5 ⟨A5, n5, c5, A6, n6, c6, rfl, -, h6, hb5⟩
      have hlt := Nat.mod_lt x (Nat.pos_of_ne_zero H0.out)
      have hn6 : n6 ≤ n3 := by
        have h7 := length_limbs_mono (Nat.le_of_lt hlt)
        rwa [h6.len, h3.len] at h7
      replace h3 := h3.below hb5
      have HV : Hid (Nat.gcd y (x % y) = Nat.gcd (val l) (val k)) := by
        rw [Hid, ← HG.out, Nat.gcd_comm y, ← Nat.gcd_rec, Nat.gcd_comm]
      have hm6 := hide (numAt_eq h6)
      have hlt6 := hide hlt
      clear hcall h2 hlt hpos
      go_wp2
      go_roundw
      case rel => exact ⟨A3, n3, c3, y, A6, n6, c6, _, rfl, rfl, by omega, by omega, h3, h6, HV.out, below_step hb5 hS⟩
      case measure =>
        have e1 := hm6.out
        rw [val_limbs] at e1
        have e2 := hmeas.out
        rw [val_limbs] at e2
        rw [e1, e2]
        exact hlt6.out

end Go.Proofs.YtfggecdgnidhfaaDoor
