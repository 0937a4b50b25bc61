/- The walk of nat.times. -/
import Derived.Test.YtlomanhmpbapeaaMem2
namespace Go.Proofs.Ytlomanhmpbapeaa
open Go.RowKit

theorem mul_bound {x y z c : Nat} (hx : x < 4294967296) (hy : y < 4294967296) (hz : z < 4294967296) (hc : c < 4294967296) :
    0 ≤ (x : Int) * (y : Int) ∧ (x : Int) * (y : Int) ≤ 18446744065119617025 ∧ (x : Int) * (y : Int) + (z : Int) + (c : Int) ≤ 18446744073709551615 ∧ (x * y + z + c) / 4294967296 < 4294967296 := by
  have h := u32_mul_le hx hy hz hc
  have h0 : ((x * y : Nat) : Int) = (x : Int) * (y : Int) := by simp
  omega

set_option maxHeartbeats 1000000 in
theorem times_any (A : Option Addr) (n c : Nat) (l : List Nat) (A2 : Option Addr) (m d : Nat) (l2 : List Nat) (w : World) (h : Rd w A n c l) (h2 : Rd w A2 m d l2) (hn : n ≤ 1073741824) (hm : m ≤ 1073741823) :
    Calls Try.prog 88 #[.slice A n c, .slice A2 m d] w (RetNat (val l * val l2) w) := by
  obtain ⟨i0, hi, hz0, hz1, hz2⟩ := info_parts Try.infoU32
  have hsum : (n : Int) + (m : Int) = ((n + m : Nat) : Int) := by simp
  have HSUM := hide hsum
  clear hsum
  go_enter Try.func88, Try.ntmps88
  go_wp2_with (at_make; refine wpList_make_rd _ rfl _ _ _ 30 rfl i0 Try.underlying23 hi hz0 hz1 hz2 _ _ _ _ (n + m) rfl rfl HSUM.out HSUM.out (by omega) ?_; intro w1 hown1 hb1)
  go_loopw [20] (fun i wr => ∃ (k : Nat) (o : List Nat), k ≤ n ∧ i = .int .i64 (k : Int) ∧ Own wr w.heap.size 30 (some ⟨w.heap.size, 0, none⟩) (n + m) (n + m) o ∧ val o = val (l.take k) * val l2 ∧ (∀ t, k + m ≤ t → lim o t = 0) ∧ Below w.heap.size w wr) (fun i _ => n - (intOf i).toNat)
  case atStart => exact ⟨0, _, Nat.zero_le _, rfl, hown1, by rw [val_replicate, List.take_zero, val_nil, Nat.zero_mul], fun t _ => getD_replicate _ _, hb1⟩
  case round =>
    obtain ⟨k, o, hk, rfl, hown, hv, hz, hS⟩ := hrel
    have HV := hide hv
    have HZ := hide hz
    clear hv hz
    by_cases hlt : k < n
    · obtain ⟨b, off, rfl, hb, hcell⟩ := (h.below hS).at hlt
      have hxl := h.lims.getD k
      obtain ⟨wo, rfl⟩ : ∃ wo : World, wo = wr := ⟨_, rfl⟩
      go_wp2
      go_loopw [8, 27] (fun cc i wr => ∃ (j c1 : Nat) (q : List Nat), j ≤ m ∧ i = .int .i64 (j : Int) ∧ cc = .int .u64 (c1 : Int) ∧ c1 < 4294967296 ∧ Own wr w.heap.size 30 (some ⟨w.heap.size, 0, none⟩) (n + m) (n + m) q ∧ MulAt (val o) (lim l k) l2 q k j c1 ∧ (∀ t, k + m ≤ t → lim q t = 0) ∧ Below w.heap.size w wr) (fun _ i _ => m - (intOf i).toNat)
      case atStart => exact ⟨0, 0, o, Nat.zero_le _, rfl, rfl, by omega, hown, mulAt_zero rfl, HZ.out, hS⟩
      case round =>
        obtain ⟨j, c1, q, hj, rfl, rfl, hc1, hownq, hmul, hzq, hS1⟩ := hrel
        have HM := hide hmul
        have HZQ := hide hzq
        clear hmul hzq hcell
        by_cases hltj : j < m
        · obtain ⟨b', off', rfl, hb', hcell'⟩ := (h2.below hS1).at hltj
          have hyl := h2.lims.getD j
          have hql := hownq.lims.getD (k + j)
          have hoc := hownq.cell (k := k + j) (by omega)
          have hof := hownq.free (k + j)
          obtain ⟨m0, m1, m2, m3⟩ := mul_bound hxl hyl hql hc1
          have hst := mulAt_step (s := lim l k * lim l2 j + lim q (k + j) + c1) HM.out (by rw [hownq.len]; omega) rfl
          have HST := hide hst
          have hi2 : (k : Int) + (j : Int) < (n : Int) + (m : Int) := by omega
          clear hst
          go_wp2
          go_roundw
          case rel => exact ⟨j + 1, _, _, by omega, by go_num, by go_num, m3, hownq.setInt (k + j) (Nat.mod_lt _ (by omega)) (by simp), HST.out, fun t ht => by rw [getD_set_ne _ _ _ _ (by omega)]; exact HZQ.out t ht, hS1.setCell (Nat.le_refl _) _⟩
          case measure => simp [intOf]; omega
        · obtain rfl : j = m := by omega
          have hoc := hownq.cell (k := k + j) (by omega)
          have hof := hownq.free (k + j)
          have hi2 : (k : Int) + (j : Int) < (n : Int) + (j : Int) := by omega
          have hend := mulAt_end (b := l2) (i := k) (c := c1) (o := q) (V := val o) (x := lim l k) (by rw [h2.len]; exact HM.out) (by rw [h2.len, hownq.len]; omega) (by rw [h2.len]; exact HZQ.out _ (Nat.le_refl _))
          have hrow := mul_row (a := l) (i := k) (vb := val l2) HV.out
          rw [h2.len, hrow] at hend
          have HE := hide hend
          clear hend hrow hltj
          go_wp2
          go_roundw
          case rel => exact ⟨k + 1, _, by omega, by go_num, hownq.setInt (k + j) hc1 rfl, HE.out, fun t ht => by rw [getD_set_ne _ _ _ _ (by omega)]; exact HZQ.out t (by omega), hS1.setCell (Nat.le_refl _) _⟩
          case measure => simp [intOf]; omega
    · obtain rfl : k = n := by omega
      have hv := HV.out
      rw [val_take_all (by rw [h.len]; exact Nat.le_refl _)] at hv
      have hrd := hown.rd
      have HV2 := hide hv
      clear hv hlt
      go_wp2_with fail
      refine (short_lim _ _ _ _ _ hrd).mono ?_
      rintro e w' ⟨q, rfl, hcut, _, rfl⟩
      rw [HV2.out] at hcut
      go_wp2
      go_ret
      exact ⟨_, _, _, rfl, hcut, hS⟩
end Go.Proofs.Ytlomanhmpbapeaa
