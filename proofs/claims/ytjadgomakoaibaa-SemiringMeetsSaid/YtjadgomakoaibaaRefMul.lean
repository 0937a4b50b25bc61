/- The walk of the reference's Mul. -/
import Derived.Test.YtjadgomakoaibaaAddMul
namespace Go.Proofs.Ytjadgomakoaibaa
open Go.RowKit

set_option maxHeartbeats 1000000 in
theorem rmul_any (A : Option Addr) (n c : Nat) (l : List Nat) (A2 : Option Addr) (m d : Nat) (l2 : List Nat) (w : World) (h : Rd w A n c l) (h2 : Rd w A2 m d l2) (hn : n + m ≤ 1073741824) :
    Calls Try.prog 28 #[.slice A n c, .slice A2 m d] w (RetNat (val l * val l2) w) := by
  obtain ⟨i0, hi, hz0, hz1, hz2⟩ := info_parts Try.infoU32
  have hsum : (n : Int) + (m : Int) = ((n + m : Nat) : Int) := by simp
  have HSUM := hide hsum
  clear hsum
  go_enter Try.func28, Try.ntmps28
  go_wp2_with (at_make; refine wpList_make_rd _ rfl _ _ _ 49 rfl i0 Try.underlying37 hi hz0 hz1 hz2 _ _ _ _ (n + m) rfl rfl HSUM.out HSUM.out (by omega) ?_; intro w1 hown1 hb1)
  go_loopw [6] (fun i wr => ∃ (k : Nat) (o : List Nat), k ≤ n ∧ i = .int .i64 (k : Int) ∧ Own wr w.heap.size 49 (some ⟨w.heap.size, 0, none⟩) (n + m) (n + m) o ∧ val o = val (l.take k) * val l2 ∧ (∀ t, k + m ≤ t → lim o t = 0) ∧ Below w.heap.size w wr) (fun i _ => n - (intOf i).toNat)
  case atStart => exact ⟨0, _, Nat.zero_le _, rfl, hown1, by rw [val_replicate, List.take_zero, val_nil, Nat.zero_mul], fun t _ => getD_replicate _ _, hb1⟩
  case round =>
    obtain ⟨k, o, hk, rfl, hown, hv, hz, hS⟩ := hrel
    have HV := hide hv
    have HZ := hide hz
    clear hv hz
    by_cases hlt : k < n
    · have hxl := h.lims.getD k
      obtain ⟨wo, rfl⟩ : ∃ wo : World, wo = wr := ⟨_, rfl⟩
      go_wp2
      go_loopw [7, 8] (fun cc i wr => ∃ (j c1 : Nat) (q : List Nat), j ≤ m ∧ i = .int .i64 (j : Int) ∧ cc = .int .u64 (c1 : Int) ∧ c1 < 4294967296 ∧ Own wr w.heap.size 49 (some ⟨w.heap.size, 0, none⟩) (n + m) (n + m) q ∧ MulAt (val o) (lim l k) l2 q k j c1 ∧ (∀ t, k + m ≤ t → lim q t = 0) ∧ Below w.heap.size w wr) (fun _ i _ => m - (intOf i).toNat)
      case atStart => exact ⟨0, 0, o, Nat.zero_le _, rfl, rfl, by omega, hown, mulAt_zero rfl, HZ.out, hS⟩
      case round =>
        obtain ⟨j, c1, q, hj, rfl, rfl, hc1, hownq, hmul, hzq, hS1⟩ := hrel
        have HM := hide hmul
        have HZQ := hide hzq
        clear hmul hzq
        by_cases hltj : j < m
        · obtain ⟨b, off, rfl, hb, hcell⟩ := (h.below hS1).at hlt
          obtain ⟨b', off', rfl, hb', hcell'⟩ := (h2.below hS1).at hltj
          have hyl := h2.lims.getD j
          have hql := hownq.lims.getD (k + j)
          have hoc := hownq.cell (k := k + j) (by omega)
          have hof := hownq.free (k + j)
          obtain ⟨m0, m1, m2, m3⟩ := mul_bound hxl hyl hql hc1
          have hst := mulAt_step (s := lim l k * lim l2 j + lim q (k + j) + c1) HM.out (by rw [hownq.len]; omega) rfl
          have HST := hide hst
          have hi2 : (k : Int) + (j : Int) < (n : Int) + (m : Int) := by omega
          have hi3 : (k : Int) < (n : Int) := by omega
          have hi4 : (j : Int) < (m : Int) := by omega
          have hw1 : IntKind.i64.wrap ((k : Int) + (j : Int)) = (k : Int) + (j : Int) := IntWalk.i64_in _ (by omega)
          have hw2 : (0 : Int) ≤ (k : Int) + (j : Int) := by omega
          have hw3 : ((k : Int) + (j : Int)).toNat = k + j := by omega
          have hw4 : IntKind.u64.wrap ((lim l k : Int) * (lim l2 j : Int)) = (lim l k : Int) * (lim l2 j : Int) := IntWalk.u64_in _ (by omega)
          have hw5 : IntKind.u64.wrap ((lim l k : Int) * (lim l2 j : Int) + (lim q (k + j) : Int)) = (lim l k : Int) * (lim l2 j : Int) + (lim q (k + j) : Int) := IntWalk.u64_in _ (by omega)
          have hw6 : IntKind.u64.wrap ((lim l k : Int) * (lim l2 j : Int) + (lim q (k + j) : Int) + (c1 : Int)) = (lim l k : Int) * (lim l2 j : Int) + (lim q (k + j) : Int) + (c1 : Int) := IntWalk.u64_in _ (by omega)
          clear hst
          go_wp2
          go_quiet (fail)
          clear hw1 hw2 hw3 hw4 hw5 hw6
          go_wp2
          go_roundw
          case rel => exact ⟨j + 1, _, _, by omega, by go_num, by go_num, m3, (hownq.drewN _).setInt (k + j) (Nat.mod_lt _ (by omega)) (by simp), HST.out, fun t ht => by rw [getD_set_ne _ _ _ _ (by omega)]; exact HZQ.out t ht, (below_drewN hS1 _).setCell (Nat.le_refl _) _⟩
          case measure => simp [intOf]; omega
        · obtain rfl : j = m := by omega
          have hoc := hownq.cell (k := k + j) (by omega)
          have hof := hownq.free (k + j)
          have hi2 : (k : Int) + (j : Int) < (n : Int) + (j : Int) := by omega
          have hend := mulAt_end (b := l2) (i := k) (c := c1) (o := q) (V := val o) (x := lim l k) (by rw [h2.len]; exact HM.out) (by rw [h2.len, hownq.len]; omega) (by rw [h2.len]; exact HZQ.out _ (Nat.le_refl _))
          have hrow := mul_row (a := l) (i := k) (vb := val l2) HV.out
          rw [h2.len, hrow] at hend
          have HE := hide hend
          clear hend hrow hltj
          go_wp2
          go_roundw
          case rel => exact ⟨k + 1, _, by omega, by go_num, hownq.setInt (k + j) hc1 rfl, HE.out, fun t ht => by rw [getD_set_ne _ _ _ _ (by omega)]; exact HZQ.out t (by omega), hS1.setCell (Nat.le_refl _) _⟩
          case measure => simp [intOf]; omega
    · obtain rfl : k = n := by omega
      have hv := HV.out
      rw [val_take_all (by rw [h.len]; exact Nat.le_refl _)] at hv
      have hrd := hown.rd
      have HV2 := hide hv
      clear hv hlt
      go_wp2_with fail
      refine (rtrim_any _ _ _ _ _ hrd (by omega)).mono ?_
      rintro e w2 ⟨A3, n3, c3, rfl, h3, hb3⟩
      rw [HV2.out] at h3
      go_wp2
      go_ret
      exact ⟨A3, n3, c3, rfl, h3, below_step hb3 hS⟩
end Go.Proofs.Ytjadgomakoaibaa
