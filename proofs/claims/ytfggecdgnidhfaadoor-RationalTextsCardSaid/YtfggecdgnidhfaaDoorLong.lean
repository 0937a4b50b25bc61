/- The walk of nat.long. -/
import Derived.Test.YtfggecdgnidhfaaDoorStep
import Derived.Test.YtfggecdgnidhfaaDoorMathL
import Derived.StillTailTactics
import Derived.BigRegion
namespace Go.Proofs.YtfggecdgnidhfaaDoor
open Go.RowKit

/-- Quotient and rest, in rows that need not be canonical. -/
def RetLong (q r : Nat) (w : World) (x : Ending) (w' : World) : Prop :=
  ∃ A n c o B m d p, x = .returned (.tuple #[.slice A n c, .slice B m d]) ∧ Rd w' A n c o ∧ Rd w' B m d p ∧ val o = q ∧ val p = r ∧ n ≤ 1000000 ∧ m ≤ 1000000 ∧ Below w.heap.size w w'

theorem or_shl_u64 (x y : Nat) (hx : x < 4294967296) (hy : y < 4294967296) : bits .or .u64 (y : Int) ((x : Int) * 4294967296) = ((y + 4294967296 * x : Nat) : Int) := by
  have h1 : (x : Int) * 4294967296 = ((x * 4294967296 : Nat) : Int) := by simp
  have h2 : y ||| x * 4294967296 = y + 4294967296 * x := by
    have := Nat.shiftLeft_add_eq_or_of_lt (a := x) (i := 32) (b := y) hy
    rw [Nat.shiftLeft_eq] at this
    rw [Nat.or_comm, show x * 4294967296 ||| y = x * 4294967296 + y from this.symm]
    omega
  rw [h1]
  show IntKind.u64.wrap ((BitVec.ofInt 64 (y : Int) ||| BitVec.ofInt 64 ((x * 4294967296 : Nat) : Int)).toNat : Int) = _
  rw [BitVec.toNat_or, BitVec.ofInt_natCast, BitVec.ofInt_natCast, BitVec.toNat_ofNat, BitVec.toNat_ofNat, Nat.mod_eq_of_lt (by omega), Nat.mod_eq_of_lt (by omega), h2]
  exact IntWalk.u64_in _ (by omega)

theorem limbs_ne {M m : Nat} (h : (limbs M).length = m + 1) : M ≠ 0 := by
  rintro rfl
  rw [limbs_zero] at h
  simp at h

/-- What a step wants, out of what the division's loop knows. -/
theorem long_ok {M T K j : Nat} {uu ua quo : List Nat} (hl : (limbs (M * T)).length = K + 2) (hd : LongAt ua quo uu (M * T) (j + 1)) (lu : Lims uu) (hj : j + (K + 2) + 1 ≤ uu.length) :
    StepOk (win uu j (K + 2)) (limbs (M * T)) (K + 2) := by
  have hV : M * T < 4294967296 ^ (K + 2) := by have := lt_pow_length (M * T); rwa [hl] at this
  refine ⟨by omega, win_len hj, hl, win_lims _ _ lu, Lims.limbs _, ?_, ?_⟩
  · have := top_limbs (limbs_ne hl)
    rwa [hl] at this
  · rw [val_limbs]
    have := window_after (k := K + 2) (long_zero lu hd.2.1 hV)
    unfold win
    rw [this]
    exact longAt_small lu (by omega) hd.2.1

theorem long_next {M T K j : Nat} {uu uu' ua quo : List Nat} (hl : (limbs (M * T)).length = K + 2) (hd : LongAt ua quo uu (M * T) (j + 1)) (lu : Lims uu) (hj : j < uu.length) (hq : j < quo.length) (hbe : Beside uu uu' j (K + 2)) (hlen : uu'.length = uu.length)
    (hval : val (win uu' j (K + 2)) = val (win uu j (K + 2)) % val (limbs (M * T))) :
    LongAt ua (quo.set j (val (win uu j (K + 2)) / val (limbs (M * T)))) uu' (M * T) j ∧ val (win uu j (K + 2)) / val (limbs (M * T)) < 4294967296 := by
  have hV : M * T < 4294967296 ^ (K + 2) := by have := lt_pow_length (M * T); rwa [hl] at this
  rw [val_limbs] at hval ⊢
  exact longAt_step hd lu hj hq hV hbe.1 hbe.2 hlen hval

theorem long_first {N M t K J n : Nat} {o : List Nat} (lo : Lims o) (hv : val o = N * 2 ^ t) (hN : (limbs N).length = n) (hM : (limbs M).length = K + 2) (hJ1 : n + 1 ≤ K + 2 + J) (hJ2 : K + 2 + J ≤ n + 1) :
    LongAt o (List.replicate J 0) o (M * 2 ^ t) J := by
  refine longAt_start (by simp) ?_
  have h1 := pow_length_le (n := M) (limbs_ne hM)
  rw [hM] at h1
  have h2 := lt_pow_length N
  rw [hN, show n = J + (K + 1) by omega] at h2
  have := long_top (vv := limbs (M * 2 ^ t)) (T := 2 ^ t) lo hv (by rw [val_limbs]) (Nat.pow_pos (by omega)) h1 h2
  rwa [val_limbs] at this

set_option maxHeartbeats 2000000 in
set_option maxRecDepth 10000 in
theorem long_div (w : World) (A : Option Addr) (n c N : Nat) (B : Option Addr) (m d M : Nat) (h : Rd w A n c (limbs N)) (h' : Rd w B m d (limbs M)) (hn : n ≤ 10000) (hm : 2 ≤ m) (hmn : m ≤ n) :
    Calls Tryd.prog 58 #[.slice A n c, .slice B m d] w (RetLong (N / M) (N % M) w) := by
  obtain ⟨K, rfl⟩ : ∃ K, m = K + 2 := ⟨m - 2, by omega⟩
  obtain ⟨J, hJ1, hJ2⟩ : ∃ J, n + 1 ≤ K + 2 + J ∧ K + 2 + J ≤ n + 1 := ⟨n + 1 - (K + 2), by omega, by omega⟩
  have hM := hide (limbs_ne h'.len)
  have HL' := hide h'.len
  have HL := hide h.len
  obtain ⟨x, hx⟩ : ∃ x, x = lim (limbs M) (K + 1) := ⟨_, rfl⟩
  have hx0 : x ≠ 0 := by
    have := top_limbs hM.out
    rw [HL'.out] at this
    rw [hx]; exact this
  have hx32 : x < 4294967296 := by rw [hx]; exact (Lims.limbs M).getD _
  have hn1 : 1 ≤ nbits x := by
    have := mt (nbits_eq_zero (n := x)).mp hx0
    omega
  have hn2 : nbits x ≤ 32 := nbits_le (by simpa using hx32)
  obtain ⟨t, ht⟩ : ∃ t, t = 32 - nbits x := ⟨_, rfl⟩
  have ht32 : t < 32 := by omega
  have hlz := lz32_any x w hx32
  rw [← ht] at hlz
  have HSL : Hid ((limbs (M * 2 ^ t)).length = K + 2) := by
    have := shifted_len (M := M) (t := t) (k := K + 1) HL'.out (by rw [← hx]; omega) hM.out
    exact this
  obtain ⟨b, off, rfl, hb, hcell⟩ := h'.at (k := K + 1) (by omega)
  rw [← hx] at hcell
  have hJ0 : 1 ≤ J := by omega
  clear hx ht hx0 hn1 hn2 hmn hm
  obtain ⟨i0, hi, hz0, hz1, hz2⟩ := info_parts Tryd.infoU32
  go_enter Tryd.func58, Tryd.ntmps58
  go_wp2_with fail
  refine hlz.mono ?_
  rintro e w1 ⟨rfl, rfl⟩
  clear hlz hcell hx32 hb
  go_wp2_with fail
  refine (shift_any _ _ _ _ t _ h' (by omega) ht32).mono ?_
  rintro e w2 ⟨A1, c1, o1, rfl, hown1, hv1, hb1⟩
  rw [val_limbs] at hv1
  go_wp2_with fail
  refine (short_lim _ _ _ _ _ hown1.rd).mono ?_
  rintro e w3 ⟨m1, rfl, hr1, -, rfl⟩
  rw [hv1] at hr1
  have hm1 := hr1.len
  rw [HSL.out] at hm1
  subst hm1
  clear hown1 hv1
  have h2 := h.below hb1
  go_wp2_with fail
  refine (shift_any _ _ _ _ t _ h2 (by omega) ht32).mono ?_
  rintro e w2 ⟨A2, c2, o2, rfl, hown2, hv2, hb2⟩
  rw [val_limbs] at hv2
  obtain ⟨g, rfl, hg1, hg2⟩ := hown2.block (by omega)
  have HV2 := hide hv2
  have HLA := hide (long_first (J := J) hown2.lims hv2 HL.out HL'.out hJ1 hJ2)
  clear hv2 h2
  go_wp2_with (at_make; refine wpList_make_rd _ rfl _ _ _ 40 rfl i0 Tryd.underlying23 hi hz0 hz1 hz2 _ _ _ _ J rfl rfl (by omega) (by omega) (by omega) ?_; intro w4 hown4 hb4)
  have hgq : g ≠ w2.heap.size := by omega
  have hsz : w3.heap.size ≤ w2.heap.size := hb2.size
  go_wp2_with fail
  go_loopw [10] (fun jv wx => ∃ (j : Nat) (q uu : List Nat), j ≤ J ∧ jv = .int .i64 ((j : Int) - 1) ∧ Own wx w3.heap.size 40 (some ⟨g, 0, none⟩) (n + 1) c2 uu ∧ Own wx w3.heap.size 40 (some ⟨w2.heap.size, 0, none⟩) J J q ∧ LongAt o2 q uu (M * 2 ^ t) j ∧ Below w3.heap.size w3 wx) (fun jv _ => (intOf jv + 1).toNat)
  case atStart => exact ⟨J, _, o2, Nat.le_refl _, congrArg (Value.int .i64) (by omega), hown2.below hb4, hown4.mono hsz, HLA.out, hb2.trans (hb4.mono hsz)⟩
  case round =>
    clear hown4 hb4 hown2
    obtain ⟨j, q, uu, hj, rfl, hu, hq, hla, hS⟩ := hrel
    have HD := hide hla
    have HUL := hide hu.len
    have HQL := hide hq.len
    clear hla
    cases j with
    | zero =>
      obtain ⟨hq1, hu1⟩ := longAt_end HD.out
      rw [HV2.out] at hq1 hu1
      rw [long_quo (Nat.pow_pos (by omega))] at hq1
      have HQ1 := hide hq1
      have HU1 := hide hu1
      clear hq1 hu1
      obtain ⟨wo, rfl⟩ : ∃ wo : World, wo = wr := ⟨_, rfl⟩
      have hsr : w3.heap.size ≤ wo.heap.size := hS.size
      have hgr : g ≠ wo.heap.size := by
        obtain ⟨g', he, _, hlt⟩ := hu.block (by omega)
        simp at he
        omega
      have hqr : w2.heap.size ≠ wo.heap.size := by
        obtain ⟨g', he, _, hlt⟩ := hq.block (by omega)
        simp at he
        omega
      have HX : Hid (val uu / 2 ^ t < 4294967296 ^ (K + 2)) := by
        have h1 := lt_pow_length (M * 2 ^ t)
        rw [HSL.out] at h1
        have h2 := HD.out.2.1
        rw [List.drop_zero] at h2
        exact Nat.lt_of_le_of_lt (Nat.div_le_self _ _) (Nat.lt_trans h2 h1)
      go_wp2_with (at_make; refine wpList_make_rd _ rfl _ _ _ 40 rfl i0 Tryd.underlying23 hi hz0 hz1 hz2 _ _ _ _ (K + 2) rfl rfl (by omega) (by omega) (by omega) ?_; intro w5 hown5 hb5)
      have hu5 := hu.below hb5
      have hq5 := hq.below hb5
      have hr5 := hown5.mono hsr
      have hS5 := hS.trans (hb5.mono hsr)
      clear hu hq hown5 hb5 hS HD
      go_wp2_with fail
      go_loopw [11, 58] (fun _ iv wx => ∃ (i : Nat) (p : List Nat), i ≤ K + 2 ∧ iv = .int .i64 (i : Int) ∧ Own wx w3.heap.size 40 (some ⟨g, 0, none⟩) (n + 1) c2 uu ∧ Own wx w3.heap.size 40 (some ⟨w2.heap.size, 0, none⟩) J J q ∧ Own wx w3.heap.size 40 (some ⟨wo.heap.size, 0, none⟩) (K + 2) (K + 2) p ∧ ShrAt p (val uu / 2 ^ t) i ∧ Below w3.heap.size w3 wx) (fun _ iv _ => K + 2 - (intOf iv).toNat)
      case atStart => exact ⟨0, _, by omega, rfl, hu5, hq5, hr5, shrAt_zero _ _, hS5⟩
      case round =>
        clear hu5 hq5 hr5 hS5
        obtain ⟨i, p, hi', rfl, hu, hq, hr, hsh, hS⟩ := hrel
        have HSH := hide hsh
        have HPL := hide hr.len
        clear hsh
        by_cases hlt : i < K + 2
        · have hu1 := hu.cell (k := i) (by omega)
          have hu2 := hu.cell (k := i + 1) (by omega)
          have hrc := hr.cell (k := i) (by omega)
          have hrf := hr.free i
          have hx1 := hu.lims.getD i
          have hx2 := hu.lims.getD (i + 1)
          have hsl := shr_limb hu.lims ht32 (i := i) (by rw [HUL.out]; omega)
          have hor := or_shl_u64 (lim uu (i + 1)) (lim uu i) hx2 hx1
          obtain ⟨s, hs⟩ : ∃ s, s = lim uu i + 4294967296 * lim uu (i + 1) := ⟨_, rfl⟩
          rw [← hs] at hor hsl
          have HST := hide (shrAt_step HSH.out (x := s / 2 ^ t % 4294967296) (by rw [HPL.out]; omega) hsl)
          have hs64 : s < 18446744073709551616 := by omega
          have hw3 : IntKind.u64.wrap ((lim uu (i + 1) : Int) * 4294967296) = (lim uu (i + 1) : Int) * 4294967296 := IntWalk.u64_in _ (by omega)
          clear hs hsl
          go_wp2_with fail
          go_region
          clear hor hw3
          go_wp2
          go_roundw
          case rel => exact ⟨i + 1, _, by omega, by go_num, (hu.drewN _).setFar hgr _, (hq.drewN _).setFar hqr _, (hr.drewN _).setInt i (Nat.mod_lt _ (by omega)) (by simp), HST.out, (below_drewN hS _).setCell hsr _⟩
          case measure => simp [intOf]; omega
        · obtain rfl : i = K + 2 := by omega
          have he := shrAt_end HSH.out (by rw [HPL.out]; exact Nat.le_refl _) HX.out
          rw [HU1.out, long_rem (Nat.pow_pos (by omega))] at he
          have HE := hide he
          clear he
          go_wp2
          go_ret2
          exact ⟨_, _, _, _, _, _, _, _, rfl, hq.rd, hr.rd, HQ1.out, HE.out, by omega, by omega, below_step hS hb1⟩
    | succ j =>
      have hqc := hq.cell (k := j) (by omega)
      have hqf := hq.free j
      have hcap := hu.rd.cap
      have hok := hide (long_ok HSL.out HD.out hu.lims (by rw [HUL.out]; omega))
      go_wp2_with fail
      rw [show j + (K + 2) + 1 - j = K + 2 + 1 from by omega]
      refine (step_any w3 _ g (n + 1) _ j (K + 2) _ _ uu _ _ hu hr1 hS hg1 (by omega) (by omega) hok.out).mono ?_
      rintro e w6 ⟨uu', hon, rfl, hu', hbe, hval, hS'⟩
      obtain ⟨hnx, hdg⟩ := long_next HSL.out HD.out hu.lims (by rw [HUL.out]; omega) (by rw [HQL.out]; omega) hbe (by rw [hu'.len, HUL.out]) hval
      have hq' := hq.far hon hgq.symm
      have hqc' := hq'.cell (k := j) (by omega)
      have hqf' := hq'.free j
      have HNX := hide hnx
      clear hqc hqf hnx hbe hval hq hu hok hon hS
      generalize val (win uu j (K + 2)) / val (limbs (M * 2 ^ t)) = dg at *
      go_wp2
      go_roundw
      case rel => exact ⟨j, _, uu', by omega, by go_num, hu'.setFar hgq _, hq'.setInt j hdg rfl, HNX.out, hS'.setCell hsz _⟩
      case measure => simp [intOf]
end Go.Proofs.YtfggecdgnidhfaaDoor
