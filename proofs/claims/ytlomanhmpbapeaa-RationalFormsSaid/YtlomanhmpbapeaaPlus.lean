/- The walk of nat.plus. -/
import Derived.Test.YtlomanhmpbapeaaMem2
namespace Go.Proofs.Ytlomanhmpbapeaa
open Go.RowKit

set_option maxHeartbeats 1000000 in
theorem plus_any (A : Option Addr) (n c : Nat) (l : List Nat) (A2 : Option Addr) (m d : Nat) (l2 : List Nat) (w : World) (h : Rd w A n c l) (h2 : Rd w A2 m d l2) (hn : n ≤ 1073741824) (hm : m ≤ 1073741824) :
    Calls Try.prog 94 #[.slice A n c, .slice A2 m d] w (RetNat (val l + val l2) w) := by
  obtain ⟨i0, hi, hz0, hz1, hz2⟩ := info_parts Try.infoU32
  by_cases hsw : n < m
  · go_enter Try.func94, Try.ntmps94
    go_wp2_with (at_make; refine wpList_make_rd _ rfl _ _ _ 30 rfl i0 Try.underlying23 hi hz0 hz1 hz2 _ _ _ _ (m + 1) rfl rfl (by simp) (by simp) (by omega) ?_; intro w1 hown1 hb1)
    go_loopw [6, 22] (fun c i wr => ∃ (k cc : Nat) (o : List Nat), k ≤ m ∧ i = .int .i64 (k : Int) ∧ c = .int .u64 (cc : Int) ∧ cc ≤ 1 ∧ Own wr w.heap.size 30 (some ⟨w.heap.size, 0, none⟩) (m + 1) (m + 1) o ∧ SumAt l2 l o k cc ∧ Below w.heap.size w wr) (fun _ i _ => m - (intOf i).toNat)
    case atStart => exact ⟨0, 0, _, Nat.zero_le _, rfl, rfl, by omega, hown1, sumAt_zero _ _ _, hb1⟩
    case round =>
      obtain ⟨k, cc, o, hk, rfl, rfl, hcc, hown, hsum, hS⟩ := hrel
      have HS := hide hsum
      clear hsum
      have hxl := h2.lims.getD k
      have hyl := h.lims.getD k
      by_cases hlt : k < m
      · obtain ⟨b, off, rfl, hb, hcell⟩ := (h2.below hS).at hlt
        have hoc := hown.cell (k := k) (by omega)
        have hof := hown.free k
        have hi2 : (k : Int) < (m : Int) + 1 := by omega
        by_cases hltb : k < n
        · obtain ⟨b', off', rfl, hb', hcell'⟩ := (h.below hS).at hltb
          have hst := sumAt_step (s := lim l2 k + cc + lim l k) HS.out (by rw [hown.len]; omega) (by omega)
          have HST := hide hst
          clear hst
          go_wp2
          go_roundw
          case rel => exact ⟨k + 1, (lim l2 k + cc + lim l k) / 4294967296, _, by omega, by go_num, by go_num, by omega, hown.setInt k (by omega) (by simp), HST.out, hS.setCell (Nat.le_refl _) _⟩
          case measure => simp [intOf]; omega
        · have hy0 : lim l k = 0 := getD_ge _ _ (by rw [h.len]; omega)
          have hst := sumAt_step (s := lim l2 k + cc) HS.out (by rw [hown.len]; omega) (by rw [hy0]; omega)
          have HST := hide hst
          clear hst hy0
          go_wp2
          go_roundw
          case rel => exact ⟨k + 1, (lim l2 k + cc) / 4294967296, _, by omega, by go_num, by go_num, by omega, hown.setInt k (by omega) (by simp), HST.out, hS.setCell (Nat.le_refl _) _⟩
          case measure => simp [intOf]; omega
      · obtain rfl : k = m := by omega
        have hoc := hown.cell (k := k) (by omega)
        have hof := hown.free k
        have hend := sumAt_end HS.out h2.len (by rw [h.len]; omega) hown.len
        have hset := (hown.setInt k (z := (cc : Int)) (by omega) rfl).rd
        have hS2 := hS.setCell (p := ⟨w.heap.size, k, none⟩) (Nat.le_refl _) (.int .u32 (cc : Int))
        have HE := hide hend
        clear hend hlt
        go_wp2_with fail
        refine (short_lim _ _ _ _ _ hset).mono ?_
        rintro e w' ⟨q, rfl, hcut, _, rfl⟩
        rw [HE.out, Nat.add_comm] at hcut
        go_wp2
        go_ret
        exact ⟨_, _, _, rfl, hcut, hS2⟩
  · go_enter Try.func94, Try.ntmps94
    go_wp2_with (at_make; refine wpList_make_rd _ rfl _ _ _ 30 rfl i0 Try.underlying23 hi hz0 hz1 hz2 _ _ _ _ (n + 1) rfl rfl (by simp) (by simp) (by omega) ?_; intro w1 hown1 hb1)
    go_loopw [6, 22] (fun c i wr => ∃ (k cc : Nat) (o : List Nat), k ≤ n ∧ i = .int .i64 (k : Int) ∧ c = .int .u64 (cc : Int) ∧ cc ≤ 1 ∧ Own wr w.heap.size 30 (some ⟨w.heap.size, 0, none⟩) (n + 1) (n + 1) o ∧ SumAt l l2 o k cc ∧ Below w.heap.size w wr) (fun _ i _ => n - (intOf i).toNat)
    case atStart => exact ⟨0, 0, _, Nat.zero_le _, rfl, rfl, by omega, hown1, sumAt_zero _ _ _, hb1⟩
    case round =>
      obtain ⟨k, cc, o, hk, rfl, rfl, hcc, hown, hsum, hS⟩ := hrel
      have HS := hide hsum
      clear hsum
      have hxl := h.lims.getD k
      have hyl := h2.lims.getD k
      by_cases hlt : k < n
      · obtain ⟨b, off, rfl, hb, hcell⟩ := (h.below hS).at hlt
        have hoc := hown.cell (k := k) (by omega)
        have hof := hown.free k
        have hi2 : (k : Int) < (n : Int) + 1 := by omega
        by_cases hltb : k < m
        · obtain ⟨b', off', rfl, hb', hcell'⟩ := (h2.below hS).at hltb
          have hst := sumAt_step (s := lim l k + cc + lim l2 k) HS.out (by rw [hown.len]; omega) (by omega)
          have HST := hide hst
          clear hst
          go_wp2
          go_roundw
          case rel => exact ⟨k + 1, (lim l k + cc + lim l2 k) / 4294967296, _, by omega, by go_num, by go_num, by omega, hown.setInt k (by omega) (by simp), HST.out, hS.setCell (Nat.le_refl _) _⟩
          case measure => simp [intOf]; omega
        · have hy0 : lim l2 k = 0 := getD_ge _ _ (by rw [h2.len]; omega)
          have hst := sumAt_step (s := lim l k + cc) HS.out (by rw [hown.len]; omega) (by rw [hy0]; omega)
          have HST := hide hst
          clear hst hy0
          go_wp2
          go_roundw
          case rel => exact ⟨k + 1, (lim l k + cc) / 4294967296, _, by omega, by go_num, by go_num, by omega, hown.setInt k (by omega) (by simp), HST.out, hS.setCell (Nat.le_refl _) _⟩
          case measure => simp [intOf]; omega
      · obtain rfl : k = n := by omega
        have hoc := hown.cell (k := k) (by omega)
        have hof := hown.free k
        have hend := sumAt_end HS.out h.len (by rw [h2.len]; omega) hown.len
        have hset := (hown.setInt k (z := (cc : Int)) (by omega) rfl).rd
        have hS2 := hS.setCell (p := ⟨w.heap.size, k, none⟩) (Nat.le_refl _) (.int .u32 (cc : Int))
        have HE := hide hend
        clear hend hlt
        go_wp2_with fail
        refine (short_lim _ _ _ _ _ hset).mono ?_
        rintro e w' ⟨q, rfl, hcut, _, rfl⟩
        rw [HE.out] at hcut
        go_wp2
        go_ret
        exact ⟨_, _, _, rfl, hcut, hS2⟩
end Go.Proofs.Ytlomanhmpbapeaa
