/- The walks of the reference's small, Choose and Binomial. -/
import Derived.Test.YtpfhohfcohkhnaaBinom
namespace Go.Proofs.Ytpfhohfcohkhnaa
open Go.RowKit

theorem shl_add_u64 (x y : Nat) (hx : x < 4294967296) (hy : y < 4294967296) : IntKind.u64.wrap (IntKind.u64.wrap ((x : Int) * 4294967296) + (y : Int)) = (x : Int) * 4294967296 + (y : Int) := by
  rw [IntWalk.u64_in ((x : Int) * 4294967296) (by omega), IntWalk.u64_in _ (by omega)]

set_option maxHeartbeats 1000000 in
theorem rsmall_any (A : Option Addr) (n c : Nat) (l : List Nat) (m d : Nat) (w : World) (h : Rd w A n c l) (hn : n ≤ 1000) (hm : m < 4294967296) (hd0 : 0 < d) (hd : d < 4294967296) :
    Calls Try.prog 88 #[.slice A n c, .int .i64 (m : Int), .int .i64 (d : Int)] w (RetNat (val l * m / d) w) := by
  obtain ⟨i0, hi, hz0, hz1, hz2⟩ := info_parts Try.infoU32
  go_enter Try.func88, Try.ntmps88
  go_wp2_with fail
  refine (rof_any m _ (by omega)).mono ?_
  rintro e w1 ⟨A1, n1, c1, rfl, h1, hb1⟩
  replace h := h.below hb1
  have hl1 : n1 ≤ 1 := by
    rw [← h1.len]
    exact length_limbs_le (by simpa using hm)
  go_wp2_with fail
  refine (rmul_any _ _ _ _ _ _ _ _ _ h h1 (by omega)).mono ?_
  rintro e w2 ⟨A2, n2, c2, rfl, h2, hb2⟩
  rw [val_limbs] at h2
  have hS := below_step hb2 hb1
  have hl2 : n2 ≤ n + 1 := by
    rw [← h2.len]
    refine length_limbs_le ?_
    have h9 := val_lt h.lims
    rw [h.len] at h9
    refine Nat.lt_of_lt_of_le (Nat.mul_lt_mul'' h9 hm) ?_
    rw [← Nat.pow_succ]
    exact Nat.le_refl _
  clear h h1 hb1 hb2
  go_wp2_with (at_make; refine wpList_make_rd _ rfl _ _ _ 56 rfl i0 Try.underlying42 hi hz0 hz1 hz2 _ _ _ _ n2 rfl rfl rfl rfl (by omega) ?_; intro w3 hown3 hb3)
  have hvl := val_limbs (val l * m)
  replace hvl := hide hvl
  generalize hll : limbs (val l * m) = ll at *
  clear hll
  go_loopw [8, 9, 10] (fun cc i _ wr => ∃ (k r : Nat) (o : List Nat), k ≤ n2 ∧ i = .int .i64 ((k : Int) - 1) ∧ cc = .int .u64 (r : Int) ∧ r < d ∧ Own wr w2.heap.size 56 (some ⟨w2.heap.size, 0, none⟩) n2 n2 o ∧ DivAt ll o d k r ∧ Below w2.heap.size w2 wr) (fun _ i _ _ => (intOf i + 1).toNat)
  case atStart => exact ⟨n2, 0, _, Nat.le_refl _, rfl, rfl, hd0, hown3, divAt_start h2.len (by simp) hd0, hb3⟩
  case round =>
    clear hown3 hb3
    obtain ⟨k, r, o, hk, rfl, rfl, hr, hown, hdv, hS2⟩ := hrel
    have HD := hide hdv
    clear hdv
    cases k with
    | zero =>
      obtain ⟨e1, e2⟩ := divAt_end HD.out
      rw [hvl.out] at e1
      have HE1 := hide e1
      have hrd := hown.rd
      clear e1 e2
      go_wp2_with fail
      refine (rtrim_any _ _ _ _ _ hrd (by omega)).mono ?_
      rintro e w' ⟨A4, n4, c4, rfl, h4, hb4⟩
      go_wp2
      go_ret
      exact ⟨_, _, _, rfl, by rw [← HE1.out]; exact h4, below_step hb4 (below_step hS2 hS)⟩
    | succ j =>
      obtain ⟨b, off, rfl, hb, hcell⟩ := (h2.below hS2).at (k := j) (by omega)
      have hx := h2.lims.getD j
      have hoc := hown.cell (k := j) (by omega)
      have hof := hown.free j
      obtain ⟨s1, s2, s3⟩ := divAt_step HD.out (by rw [h2.len]; omega) (by rw [hown.len]; omega) h2.lims hd
      have HS1 := hide s1
      have hor := shl_add_u64 r (lim ll j) (by omega) hx
      have hml : (r * 4294967296 + lim ll j) % d < d := Nat.mod_lt _ hd0
      have hle : (r * 4294967296 + lim ll j) / d ≤ r * 4294967296 + lim ll j := Nat.div_le_self _ _
      have e1 : (((r * 4294967296 + lim ll j) / d : Nat) : Int) = ((r : Int) * 4294967296 + (lim ll j : Int)) / (d : Int) := by simp
      have HE1 := hide e1
      clear s1 e1
      go_wp2
      go_roundw
      case rel => exact ⟨j, _, _, by omega, rfl, by go_num, hml, hown.setInt j s2 (by rw [← HE1.out]; exact mod_cast_small s2), HS1.out, hS2.setCell (Nat.le_refl _) _⟩
      case measure => simp [intOf]

set_option maxHeartbeats 1000000 in
theorem rchoose_any (N : Nat) (k : Int) (w : World) (hN : N ≤ 4096) (hk : -9223372036854775808 ≤ k ∧ k ≤ 9223372036854775807) :
    Calls Try.prog 83 #[.int .i64 (N : Int), .int .i64 k] w (RetNat (binNum (N : Int) k) w) := by
  obtain ⟨hk1, hk2⟩ := hk
  by_cases hout : k < 0 ∨ (N : Int) < k
  · have HB : Hid (binNum (N : Int) k = 0) := by
      rcases hout with h9 | h9
      · exact bin_neg h9
      · exact bin_gt h9
    have hba := below_alloc w (.cells #[] 56)
    have hro := (Own.lit0 w 56 (Nat.le_refl _)).rd
    rcases (show k < 0 ∨ (¬ k < 0 ∧ (N : Int) < k) by omega) with h1 | ⟨h1, h2⟩
    all_goals
      clear hout
      go_enter Try.func83, Try.ntmps83
      go_wp2
      go_ret
      exact ⟨_, _, _, rfl, by rw [HB.out, limbs_zero]; exact hro, hba⟩
  obtain ⟨K, rfl⟩ := Int.eq_ofNat_of_zero_le (show 0 ≤ k by omega)
  have hK : K ≤ N := by omega
  have hg3 : ¬ (K : Int) < 0 := by omega
  have hg4 : ¬ (N : Int) < (K : Int) := by omega
  have HB : Hid (binNum (N : Int) (K : Int) = choose N K) := bin_num hN
  have hba := below_alloc w (.cells #[Value.int .u32 1] 56)
  have hone := rd_lit1 (w := w) (x := 1) w.heap.size rfl 1 rfl (by omega) (by omega)
  clear hout
  go_enter Try.func83, Try.ntmps83
  go_wp2_with fail
  go_loopw [5, 6] (fun v i wr => ∃ (j : Nat) (A1 : Option Addr) (n1 c1 : Nat), j ≤ K ∧ i = .int .i64 (j : Int) ∧ v = .slice A1 n1 c1 ∧ Rd wr A1 n1 c1 (limbs (choose N j)) ∧ Below w.heap.size w wr) (fun _ i _ => K - (intOf i).toNat)
  case atStart => exact ⟨0, _, 1, 1, Nat.zero_le _, rfl, rfl, by rw [choose_zero_right]; exact hone, hba⟩
  case round =>
    obtain ⟨j, A1, n1, c1, hj, rfl, rfl, hr, hS⟩ := hrel
    have hn1 : n1 ≤ 129 := by rw [← hr.len]; exact choose_len (n := N) (k := j) hN
    by_cases hlt : j < K
    · have HST := hide (choose_step_div (n := N) (k := j) (by omega))
      have e1 : (N : Int) - (j : Int) = ((N - j : Nat) : Int) := by omega
      have e2 : (j : Int) + 1 = ((j + 1 : Nat) : Int) := by omega
      have HE := hide (rsmall_any A1 n1 c1 _ (N - j) (j + 1) wr hr (by omega) (by omega) (by omega) (by omega))
      rw [← e1, ← e2] at HE
      clear e1 e2
      go_wp2_with fail
      refine HE.out.mono ?_
      rintro e w2 ⟨A2, n2, c2, rfl, h2, hb2⟩
      rw [val_limbs, HST.out] at h2
      have hS2 := below_step hb2 hS
      go_wp2
      go_roundw
      case rel => exact ⟨j + 1, A2, n2, c2, by omega, by go_num, rfl, h2, hS2⟩
      case measure => simp [intOf]; omega
    · obtain rfl : j = K := by omega
      go_wp2
      go_ret
      exact ⟨A1, n1, c1, rfl, by rw [HB.out]; exact hr, hS⟩

set_option maxHeartbeats 1000000 in
theorem rbinom_any (n k : Int) (w : World) (hn : -9223372036854775808 ≤ n ∧ n ≤ 9223372036854775807) (hk : -9223372036854775808 ≤ k ∧ k ≤ 9223372036854775807) :
    Calls Try.prog 53 #[.int .i64 n, .int .i64 k] w (fun x w' => ∃ A m c, x = .returned (.tuple #[.slice A m c, .int .i64 (binErr n)]) ∧ Rd w' A m c (limbs (binNum n k)) ∧ Below w.heap.size w w') := by
  obtain ⟨hn1, hn2⟩ := hn
  by_cases hbad : n < 0 ∨ 4096 < n
  · have HB := hide (bin_bad (k := k) hbad)
    rcases (show n < 0 ∨ (¬ n < 0 ∧ 4096 < n) by omega) with h1 | ⟨h1, h2⟩
    all_goals
      clear hbad
      go_enter Try.func53, Try.ntmps53
      go_wp2
      go_ret2
      exact ⟨none, 0, 0, by rw [HB.out.1]; rfl, by rw [HB.out.2]; exact Rd.nil w, Below.refl _ _⟩
  obtain ⟨N, rfl⟩ := Int.eq_ofNat_of_zero_le (show 0 ≤ n by omega)
  have hN : N ≤ 4096 := by omega
  have HE := hide (bin_ok hN)
  have hg1 : ¬ (N : Int) < 0 := by omega
  have hg2 : ¬ (4096 : Int) < (N : Int) := by omega
  clear hbad
  go_enter Try.func53, Try.ntmps53
  go_wp2_with fail
  refine (rchoose_any N k _ hN hk).mono ?_
  rintro e w2 ⟨A2, n2, c2, rfl, h2, hb2⟩
  go_wp2
  go_ret2
  exact ⟨A2, n2, c2, by rw [HE.out]; rfl, h2, hb2⟩
end Go.Proofs.Ytpfhohfcohkhnaa
