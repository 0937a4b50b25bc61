/- The walk of nat.plus. The walk of nat.times. The walks of nat.Add and nat.Mul: sums and products of lists of numbers. -/
import Derived.Test.YtfggecdgnidhfaaDoorSame
namespace Go.Proofs.YtfggecdgnidhfaaDoor
open Go.RowKit

set_option maxHeartbeats 1000000 in
theorem plus_any (A : Option Addr) (n c : Nat) (l : List Nat) (A2 : Option Addr) (m d : Nat) (l2 : List Nat) (w : World) (h : Rd w A n c l) (h2 : Rd w A2 m d l2) (hn : n ≤ 1073741824) (hm : m ≤ 1073741824) :
    Calls Tryd.prog 25 #[.slice A n c, .slice A2 m d] w (RetNat (val l + val l2) w) := by
  obtain ⟨i0, hi, hz0, hz1, hz2⟩ := info_parts Tryd.infoU32
  by_cases hsw : n < m
  · go_enter Tryd.func25, Tryd.ntmps25
    go_wp2_with (at_make; refine wpList_make_rd _ rfl _ _ _ 40 rfl i0 Tryd.underlying23 hi hz0 hz1 hz2 _ _ _ _ (m + 1) rfl rfl (by simp) (by simp) (by omega) ?_; intro w1 hown1 hb1)
    go_loopw [6, 22] (fun c i wr => ∃ (k cc : Nat) (o : List Nat), k ≤ m ∧ i = .int .i64 (k : Int) ∧ c = .int .u64 (cc : Int) ∧ cc ≤ 1 ∧ Own wr w.heap.size 40 (some ⟨w.heap.size, 0, none⟩) (m + 1) (m + 1) o ∧ SumAt l2 l o k cc ∧ Below w.heap.size w wr) (fun _ i _ => m - (intOf i).toNat)
    case atStart => exact ⟨0, 0, _, Nat.zero_le _, rfl, rfl, by omega, hown1, sumAt_zero _ _ _, hb1⟩
    case round =>
      obtain ⟨k, cc, o, hk, rfl, rfl, hcc, hown, hsum, hS⟩ := hrel
      have HS := hide hsum
      clear hsum
      have hxl := h2.lims.getD k
      have hyl := h.lims.getD k
      by_cases hlt : k < m
      · obtain ⟨b, off, rfl, hb, hcell⟩ := (h2.below hS).at hlt
        have hoc := hown.cell (k := k) (by omega)
        have hof := hown.free k
        have hi2 : (k : Int) < (m : Int) + 1 := by omega
        by_cases hltb : k < n
        · obtain ⟨b', off', rfl, hb', hcell'⟩ := (h.below hS).at hltb
          have hst := sumAt_step (s := lim l2 k + cc + lim l k) HS.out (by rw [hown.len]; omega) (by omega)
          have HST := hide hst
          clear hst
          go_wp2
          go_roundw
          case rel => exact ⟨k + 1, (lim l2 k + cc + lim l k) / 4294967296, _, by omega, by go_num, by go_num, by omega, hown.setInt k (by omega) (by simp), HST.out, hS.setCell (Nat.le_refl _) _⟩
          case measure => simp [intOf]; omega
        · have hy0 : lim l k = 0 := getD_ge _ _ (by rw [h.len]; omega)
          have hst := sumAt_step (s := lim l2 k + cc) HS.out (by rw [hown.len]; omega) (by rw [hy0]; omega)
          have HST := hide hst
          clear hst hy0
          go_wp2
          go_roundw
          case rel => exact ⟨k + 1, (lim l2 k + cc) / 4294967296, _, by omega, by go_num, by go_num, by omega, hown.setInt k (by omega) (by simp), HST.out, hS.setCell (Nat.le_refl _) _⟩
          case measure => simp [intOf]; omega
      · obtain rfl : k = m := by omega
        have hoc := hown.cell (k := k) (by omega)
        have hof := hown.free k
        have hend := sumAt_end HS.out h2.len (by rw [h.len]; omega) hown.len
        have hset := (hown.setInt k (z := (cc : Int)) (by omega) rfl).rd
        have hS2 := hS.setCell (p := ⟨w.heap.size, k, none⟩) (Nat.le_refl _) (.int .u32 (cc : Int))
        have HE := hide hend
        clear hend hlt
        go_wp2_with fail
        refine (short_lim _ _ _ _ _ hset).mono ?_
        rintro e w' ⟨q, rfl, hcut, _, rfl⟩
        rw [HE.out, Nat.add_comm] at hcut
        go_wp2
        go_ret
        exact ⟨_, _, _, rfl, hcut, hS2⟩
  · go_enter Tryd.func25, Tryd.ntmps25
    go_wp2_with (at_make; refine wpList_make_rd _ rfl _ _ _ 40 rfl i0 Tryd.underlying23 hi hz0 hz1 hz2 _ _ _ _ (n + 1) rfl rfl (by simp) (by simp) (by omega) ?_; intro w1 hown1 hb1)
    go_loopw [6, 22] (fun c i wr => ∃ (k cc : Nat) (o : List Nat), k ≤ n ∧ i = .int .i64 (k : Int) ∧ c = .int .u64 (cc : Int) ∧ cc ≤ 1 ∧ Own wr w.heap.size 40 (some ⟨w.heap.size, 0, none⟩) (n + 1) (n + 1) o ∧ SumAt l l2 o k cc ∧ Below w.heap.size w wr) (fun _ i _ => n - (intOf i).toNat)
    case atStart => exact ⟨0, 0, _, Nat.zero_le _, rfl, rfl, by omega, hown1, sumAt_zero _ _ _, hb1⟩
    case round =>
      obtain ⟨k, cc, o, hk, rfl, rfl, hcc, hown, hsum, hS⟩ := hrel
      have HS := hide hsum
      clear hsum
      have hxl := h.lims.getD k
      have hyl := h2.lims.getD k
      by_cases hlt : k < n
      · obtain ⟨b, off, rfl, hb, hcell⟩ := (h.below hS).at hlt
        have hoc := hown.cell (k := k) (by omega)
        have hof := hown.free k
        have hi2 : (k : Int) < (n : Int) + 1 := by omega
        by_cases hltb : k < m
        · obtain ⟨b', off', rfl, hb', hcell'⟩ := (h2.below hS).at hltb
          have hst := sumAt_step (s := lim l k + cc + lim l2 k) HS.out (by rw [hown.len]; omega) (by omega)
          have HST := hide hst
          clear hst
          go_wp2
          go_roundw
          case rel => exact ⟨k + 1, (lim l k + cc + lim l2 k) / 4294967296, _, by omega, by go_num, by go_num, by omega, hown.setInt k (by omega) (by simp), HST.out, hS.setCell (Nat.le_refl _) _⟩
          case measure => simp [intOf]; omega
        · have hy0 : lim l2 k = 0 := getD_ge _ _ (by rw [h2.len]; omega)
          have hst := sumAt_step (s := lim l k + cc) HS.out (by rw [hown.len]; omega) (by rw [hy0]; omega)
          have HST := hide hst
          clear hst hy0
          go_wp2
          go_roundw
          case rel => exact ⟨k + 1, (lim l k + cc) / 4294967296, _, by omega, by go_num, by go_num, by omega, hown.setInt k (by omega) (by simp), HST.out, hS.setCell (Nat.le_refl _) _⟩
          case measure => simp [intOf]; omega
      · obtain rfl : k = n := by omega
        have hoc := hown.cell (k := k) (by omega)
        have hof := hown.free k
        have hend := sumAt_end HS.out h.len (by rw [h2.len]; omega) hown.len
        have hset := (hown.setInt k (z := (cc : Int)) (by omega) rfl).rd
        have hS2 := hS.setCell (p := ⟨w.heap.size, k, none⟩) (Nat.le_refl _) (.int .u32 (cc : Int))
        have HE := hide hend
        clear hend hlt
        go_wp2_with fail
        refine (short_lim _ _ _ _ _ hset).mono ?_
        rintro e w' ⟨q, rfl, hcut, _, rfl⟩
        rw [HE.out] at hcut
        go_wp2
        go_ret
        exact ⟨_, _, _, rfl, hcut, hS2⟩

theorem mul_bound {x y z c : Nat} (hx : x < 4294967296) (hy : y < 4294967296) (hz : z < 4294967296) (hc : c < 4294967296) :
    0 ≤ (x : Int) * (y : Int) ∧ (x : Int) * (y : Int) ≤ 18446744065119617025 ∧ (x : Int) * (y : Int) + (z : Int) + (c : Int) ≤ 18446744073709551615 ∧ (x * y + z + c) / 4294967296 < 4294967296 := by
  have h := u32_mul_le hx hy hz hc
  have h0 : ((x * y : Nat) : Int) = (x : Int) * (y : Int) := by simp
  omega

set_option maxHeartbeats 1000000 in
theorem times_any (A : Option Addr) (n c : Nat) (l : List Nat) (A2 : Option Addr) (m d : Nat) (l2 : List Nat) (w : World) (h : Rd w A n c l) (h2 : Rd w A2 m d l2) (hn : n ≤ 1073741824) (hm : m ≤ 1073741823) :
    Calls Tryd.prog 26 #[.slice A n c, .slice A2 m d] w (RetNat (val l * val l2) w) := by
  obtain ⟨i0, hi, hz0, hz1, hz2⟩ := info_parts Tryd.infoU32
  have hsum : (n : Int) + (m : Int) = ((n + m : Nat) : Int) := by simp
  have HSUM := hide hsum
  clear hsum
  go_enter Tryd.func26, Tryd.ntmps26
  go_wp2_with (at_make; refine wpList_make_rd _ rfl _ _ _ 40 rfl i0 Tryd.underlying23 hi hz0 hz1 hz2 _ _ _ _ (n + m) rfl rfl HSUM.out HSUM.out (by omega) ?_; intro w1 hown1 hb1)
  go_loopw [20] (fun i wr => ∃ (k : Nat) (o : List Nat), k ≤ n ∧ i = .int .i64 (k : Int) ∧ Own wr w.heap.size 40 (some ⟨w.heap.size, 0, none⟩) (n + m) (n + m) o ∧ val o = val (l.take k) * val l2 ∧ (∀ t, k + m ≤ t → lim o t = 0) ∧ Below w.heap.size w wr) (fun i _ => n - (intOf i).toNat)
  case atStart => exact ⟨0, _, Nat.zero_le _, rfl, hown1, by rw [val_replicate, List.take_zero, val_nil, Nat.zero_mul], fun t _ => getD_replicate _ _, hb1⟩
  case round =>
    obtain ⟨k, o, hk, rfl, hown, hv, hz, hS⟩ := hrel
    have HV := hide hv
    have HZ := hide hz
    clear hv hz
    by_cases hlt : k < n
    · obtain ⟨b, off, rfl, hb, hcell⟩ := (h.below hS).at hlt
      have hxl := h.lims.getD k
      obtain ⟨wo, rfl⟩ : ∃ wo : World, wo = wr := ⟨_, rfl⟩
      go_wp2
      go_loopw [8, 27] (fun cc i wr => ∃ (j c1 : Nat) (q : List Nat), j ≤ m ∧ i = .int .i64 (j : Int) ∧ cc = .int .u64 (c1 : Int) ∧ c1 < 4294967296 ∧ Own wr w.heap.size 40 (some ⟨w.heap.size, 0, none⟩) (n + m) (n + m) q ∧ MulAt (val o) (lim l k) l2 q k j c1 ∧ (∀ t, k + m ≤ t → lim q t = 0) ∧ Below w.heap.size w wr) (fun _ i _ => m - (intOf i).toNat)
      case atStart => exact ⟨0, 0, o, Nat.zero_le _, rfl, rfl, by omega, hown, mulAt_zero rfl, HZ.out, hS⟩
      case round =>
        obtain ⟨j, c1, q, hj, rfl, rfl, hc1, hownq, hmul, hzq, hS1⟩ := hrel
        have HM := hide hmul
        have HZQ := hide hzq
        clear hmul hzq hcell
        by_cases hltj : j < m
        · obtain ⟨b', off', rfl, hb', hcell'⟩ := (h2.below hS1).at hltj
          have hyl := h2.lims.getD j
          have hql := hownq.lims.getD (k + j)
          have hoc := hownq.cell (k := k + j) (by omega)
          have hof := hownq.free (k + j)
          obtain ⟨m0, m1, m2, m3⟩ := mul_bound hxl hyl hql hc1
          have hst := mulAt_step (s := lim l k * lim l2 j + lim q (k + j) + c1) HM.out (by rw [hownq.len]; omega) rfl
          have HST := hide hst
          have hi2 : (k : Int) + (j : Int) < (n : Int) + (m : Int) := by omega
          clear hst
          go_wp2
          go_roundw
          case rel => exact ⟨j + 1, _, _, by omega, by go_num, by go_num, m3, hownq.setInt (k + j) (Nat.mod_lt _ (by omega)) (by simp), HST.out, fun t ht => by rw [getD_set_ne _ _ _ _ (by omega)]; exact HZQ.out t ht, hS1.setCell (Nat.le_refl _) _⟩
          case measure => simp [intOf]; omega
        · obtain rfl : j = m := by omega
          have hoc := hownq.cell (k := k + j) (by omega)
          have hof := hownq.free (k + j)
          have hi2 : (k : Int) + (j : Int) < (n : Int) + (j : Int) := by omega
          have hend := mulAt_end (b := l2) (i := k) (c := c1) (o := q) (V := val o) (x := lim l k) (by rw [h2.len]; exact HM.out) (by rw [h2.len, hownq.len]; omega) (by rw [h2.len]; exact HZQ.out _ (Nat.le_refl _))
          have hrow := mul_row (a := l) (i := k) (vb := val l2) HV.out
          rw [h2.len, hrow] at hend
          have HE := hide hend
          clear hend hrow hltj
          go_wp2
          go_roundw
          case rel => exact ⟨k + 1, _, by omega, by go_num, hownq.setInt (k + j) hc1 rfl, HE.out, fun t ht => by rw [getD_set_ne _ _ _ _ (by omega)]; exact HZQ.out t (by omega), hS1.setCell (Nat.le_refl _) _⟩
          case measure => simp [intOf]; omega
    · obtain rfl : k = n := by omega
      have hv := HV.out
      rw [val_take_all (by rw [h.len]; exact Nat.le_refl _)] at hv
      have hrd := hown.rd
      have HV2 := hide hv
      clear hv hlt
      go_wp2_with fail
      refine (short_lim _ _ _ _ _ hrd).mono ?_
      rintro e w' ⟨q, rfl, hcut, _, rfl⟩
      rw [HV2.out] at hcut
      go_wp2
      go_ret
      exact ⟨_, _, _, rfl, hcut, hS⟩

/-- The sum of the values of lists of limbs. -/
def sumV : List (List Nat) → Nat
  | [] => 0
  | l :: ll => val l + sumV ll
/-- The product of the values of lists of limbs. -/
def prodV : List (List Nat) → Nat
  | [] => 1
  | l :: ll => val l * prodV ll

theorem sumV_append (a b : List (List Nat)) : sumV (a ++ b) = sumV a + sumV b := by
  induction a with
  | nil => simp [sumV]
  | cons x a ih => simp only [List.cons_append, sumV, ih]; omega
theorem prodV_append (a b : List (List Nat)) : prodV (a ++ b) = prodV a * prodV b := by
  induction a with
  | nil => simp [prodV]
  | cons x a ih => simp only [List.cons_append, prodV, ih, Nat.mul_assoc]
theorem getD_lt {ll : List (List Nat)} {k : Nat} (h : k < ll.length) : ll.getD k [] = ll[k] := by
  rw [List.getD_eq_getElem?_getD, List.getElem?_eq_getElem h]; rfl
theorem sumV_take {ll : List (List Nat)} {k : Nat} (h : k < ll.length) : sumV (ll.take (k + 1)) = sumV (ll.take k) + val (ll.getD k []) := by
  rw [List.take_succ_eq_append_getElem h, sumV_append, getD_lt h]; simp [sumV]
theorem prodV_take {ll : List (List Nat)} {k : Nat} (h : k < ll.length) : prodV (ll.take (k + 1)) = prodV (ll.take k) * val (ll.getD k []) := by
  rw [List.take_succ_eq_append_getElem h, prodV_append, getD_lt h]; simp [prodV]

theorem sumV_lt {ll : List (List Nat)} {L : Nat} (h : ∀ l ∈ ll, val l < 4294967296 ^ L) : sumV ll ≤ ll.length * 4294967296 ^ L := by
  induction ll with
  | nil => simp [sumV]
  | cons x a ih =>
    have h1 := h x (by simp)
    have h2 := ih (fun l hl => h l (by simp [hl]))
    simp only [sumV, List.length_cons, Nat.add_mul]
    omega
theorem prodV_lt {ll : List (List Nat)} {L : Nat} (h : ∀ l ∈ ll, val l < 4294967296 ^ L) : ll = [] ∨ prodV ll < 4294967296 ^ (ll.length * L) := by
  induction ll with
  | nil => exact .inl rfl
  | cons x a ih =>
    right
    have h1 := h x (by simp)
    rw [prodV, List.length_cons, Nat.add_mul, Nat.one_mul, Nat.pow_add, Nat.mul_comm]
    rcases ih (fun l hl => h l (by simp [hl])) with rfl | h2
    · simp only [prodV, Nat.one_mul, List.length_nil, Nat.zero_mul, Nat.pow_zero]
      exact h1
    · exact Nat.mul_lt_mul'' h2 h1

/-- The numbers in the list have at most L limbs. -/
def Short (L : Nat) (ll : List (List Nat)) : Prop := ∀ l ∈ ll, l.length ≤ L
theorem Short.val {L : Nat} {ll : List (List Nat)} (h : Short L ll) (hl : ∀ l ∈ ll, Lims l) : ∀ l ∈ ll, val l < 4294967296 ^ L := fun l hm =>
  Nat.lt_of_lt_of_le (val_lt (hl l hm)) (Nat.pow_le_pow_right (by omega) (h l hm))
theorem RdL.lims {w : World} {A : Option Addr} {n c : Nat} {ll : List (List Nat)} (h : RdL w A n c ll) : ∀ l ∈ ll, Lims l := by
  intro l hl
  obtain ⟨k, hk, rfl⟩ := List.getElem_of_mem hl
  obtain ⟨_, _, _, _, _, _, _, _, hr⟩ := h.at (k := k) (by rw [← h.len]; exact hk)
  rw [getD_lt hk] at hr
  exact hr.lims

theorem mul_pow_lt {k L : Nat} (h : k < 4294967296) : k * 4294967296 ^ L < 4294967296 ^ (L + 1) := by
  rw [Nat.pow_succ, Nat.mul_comm]
  exact Nat.mul_lt_mul_of_pos_left h (Nat.pow_pos (by omega))

end Go.Proofs.YtfggecdgnidhfaaDoor
