/- The walks of nat.Add and nat.Mul: sums and products of lists of numbers. -/
import Derived.Test.YtlomanhmpbapeaaPlus
import Derived.Test.YtlomanhmpbapeaaTimes
namespace Go.Proofs.Ytlomanhmpbapeaa
open Go.RowKit

/-- The sum of the values of lists of limbs. -/
def sumV : List (List Nat) → Nat
  | [] => 0
  | l :: ll => val l + sumV ll
/-- The product of the values of lists of limbs. -/
def prodV : List (List Nat) → Nat
  | [] => 1
  | l :: ll => val l * prodV ll

theorem sumV_append (a b : List (List Nat)) : sumV (a ++ b) = sumV a + sumV b := by
  induction a with
  | nil => simp [sumV]
  | cons x a ih => simp only [List.cons_append, sumV, ih]; omega
theorem prodV_append (a b : List (List Nat)) : prodV (a ++ b) = prodV a * prodV b := by
  induction a with
  | nil => simp [prodV]
  | cons x a ih => simp only [List.cons_append, prodV, ih, Nat.mul_assoc]
theorem getD_lt {ll : List (List Nat)} {k : Nat} (h : k < ll.length) : ll.getD k [] = ll[k] := by
  rw [List.getD_eq_getElem?_getD, List.getElem?_eq_getElem h]; rfl
theorem sumV_take {ll : List (List Nat)} {k : Nat} (h : k < ll.length) : sumV (ll.take (k + 1)) = sumV (ll.take k) + val (ll.getD k []) := by
  rw [List.take_succ_eq_append_getElem h, sumV_append, getD_lt h]; simp [sumV]
theorem prodV_take {ll : List (List Nat)} {k : Nat} (h : k < ll.length) : prodV (ll.take (k + 1)) = prodV (ll.take k) * val (ll.getD k []) := by
  rw [List.take_succ_eq_append_getElem h, prodV_append, getD_lt h]; simp [prodV]

theorem sumV_lt {ll : List (List Nat)} {L : Nat} (h : ∀ l ∈ ll, val l < 4294967296 ^ L) : sumV ll ≤ ll.length * 4294967296 ^ L := by
  induction ll with
  | nil => simp [sumV]
  | cons x a ih =>
    have h1 := h x (by simp)
    have h2 := ih (fun l hl => h l (by simp [hl]))
    simp only [sumV, List.length_cons, Nat.add_mul]
    omega
theorem prodV_lt {ll : List (List Nat)} {L : Nat} (h : ∀ l ∈ ll, val l < 4294967296 ^ L) : ll = [] ∨ prodV ll < 4294967296 ^ (ll.length * L) := by
  induction ll with
  | nil => exact .inl rfl
  | cons x a ih =>
    right
    have h1 := h x (by simp)
    rw [prodV, List.length_cons, Nat.add_mul, Nat.one_mul, Nat.pow_add, Nat.mul_comm]
    rcases ih (fun l hl => h l (by simp [hl])) with rfl | h2
    · simp only [prodV, Nat.one_mul, List.length_nil, Nat.zero_mul, Nat.pow_zero]
      exact h1
    · exact Nat.mul_lt_mul'' h2 h1

/-- The numbers in the list have at most L limbs. -/
def Short (L : Nat) (ll : List (List Nat)) : Prop := ∀ l ∈ ll, l.length ≤ L
theorem Short.val {L : Nat} {ll : List (List Nat)} (h : Short L ll) (hl : ∀ l ∈ ll, Lims l) : ∀ l ∈ ll, val l < 4294967296 ^ L := fun l hm =>
  Nat.lt_of_lt_of_le (val_lt (hl l hm)) (Nat.pow_le_pow_right (by omega) (h l hm))
theorem RdL.lims {w : World} {A : Option Addr} {n c : Nat} {ll : List (List Nat)} (h : RdL w A n c ll) : ∀ l ∈ ll, Lims l := by
  intro l hl
  obtain ⟨k, hk, rfl⟩ := List.getElem_of_mem hl
  obtain ⟨_, _, _, _, _, _, _, _, hr⟩ := h.at (k := k) (by rw [← h.len]; exact hk)
  rw [getD_lt hk] at hr
  exact hr.lims

theorem mul_pow_lt {k L : Nat} (h : k < 4294967296) : k * 4294967296 ^ L < 4294967296 ^ (L + 1) := by
  rw [Nat.pow_succ, Nat.mul_comm]
  exact Nat.mul_lt_mul_of_pos_left h (Nat.pow_pos (by omega))

set_option maxHeartbeats 1000000 in
theorem add_any (A : Option Addr) (n c : Nat) (ll : List (List Nat)) (w : World) (h : RdL w A n c ll) (L : Nat) (hs : Short L ll) (hL : L ≤ 1000000) (hn : n < 4294967296) :
    Calls Try.prog 75 #[.slice A n c] w (RetNat (sumV ll) w) := by
  have hb : ∀ k, k ≤ n → (limbs (sumV (ll.take k))).length ≤ L + 1 := by
    intro k hk
    refine length_limbs_le ?_
    have h1 := sumV_lt (ll := ll.take k) (L := L) (fun l hl => hs.val h.lims l (List.mem_of_mem_take hl))
    rw [List.length_take, h.len, Nat.min_eq_left hk] at h1
    exact Nat.lt_of_le_of_lt h1 (mul_pow_lt (by omega))
  have HB := hide hb
  clear hb
  have h63 := h.le63
  go_enter Try.func75, Try.ntmps75
  go_wp2
  go_loopw [3, 8] (fun v i wr => ∃ (k : Nat) (A1 : Option Addr) (n1 c1 : Nat), k ≤ n ∧ i = .int .i64 (k : Int) ∧ v = .slice A1 n1 c1 ∧ Rd wr A1 n1 c1 (limbs (sumV (ll.take k))) ∧ Below w.heap.size w wr) (fun _ i _ => n - (intOf i).toNat)
  case atStart => exact ⟨0, none, 0, 0, Nat.zero_le _, rfl, rfl, Rd.nil _, Below.refl _ _⟩
  case round =>
    obtain ⟨k, A1, n1, c1, hk, rfl, rfl, hr, hS⟩ := hrel
    have hn1 : n1 ≤ 1000001 := by
      have h1 := HB.out k hk
      have := hr.len
      omega
    by_cases hlt : k < n
    · obtain ⟨b, off, Aj, nj, cj, rfl, hb, hcell, hrj⟩ := (h.below hS).at hlt
      have hlj := hrj.len
      have hgd := getD_lt (ll := ll) (k := k) (by rw [h.len]; exact hlt)
      have hnj : nj ≤ 1000000 := by
        have h1 := hs _ (List.getElem_mem (show k < ll.length by rw [h.len]; exact hlt))
        rw [← hgd] at h1
        omega
      have htk := sumV_take (ll := ll) (k := k) (by rw [h.len]; exact hlt)
      have HT := hide htk
      clear hgd hlj htk
      go_wp2_with fail
      refine (short_lim _ _ _ _ _ hrj).mono ?_
      rintro e w' ⟨q, rfl, hcut, hq, rfl⟩
      go_wp2_with fail
      refine (plus_any _ _ _ _ _ _ _ _ _ hr hcut (by omega) (by omega)).mono ?_
      rintro e w2 ⟨A2, n2, c2, rfl, h2, hb2⟩
      rw [val_limbs, val_limbs, ← HT.out] at h2
      clear hcell hcut hr hrj
      go_wp2
      go_roundw
      case rel => exact ⟨k + 1, A2, n2, c2, by omega, by go_num, rfl, h2, below_step hb2 hS⟩
      case measure => simp [intOf]; omega
    · obtain rfl : k = n := by omega
      have ht : ll.take k = ll := List.take_of_length_le (by rw [h.len]; exact Nat.le_refl _)
      rw [ht] at hr
      clear ht hlt
      go_wp2_with fail
      refine (trim_any _ _ _ _ _ hr (by omega)).mono ?_
      rintro e w2 ⟨A2, n2, c2, rfl, h2, hb2⟩
      rw [val_limbs] at h2
      go_wp2
      go_ret
      exact ⟨A2, n2, c2, rfl, h2, below_step hb2 hS⟩

set_option maxHeartbeats 1000000 in
theorem mul_any (A : Option Addr) (n c : Nat) (ll : List (List Nat)) (w : World) (h : RdL w A n c ll) (L : Nat) (hs : Short L ll) (hL : n * L ≤ 1000000000) (hL2 : L ≤ 1000000000) :
    Calls Try.prog 65 #[.slice A n c] w (RetNat (prodV ll) w) := by
  have hb : ∀ k, k ≤ n → (limbs (prodV (ll.take k))).length ≤ 1000000001 := by
    intro k hk
    rcases prodV_lt (ll := ll.take k) (L := L) (fun l hl => hs.val h.lims l (List.mem_of_mem_take hl)) with h1 | h1
    · rw [h1]; decide
    · rw [List.length_take, h.len, Nat.min_eq_left hk] at h1
      have h2 := length_limbs_le h1
      have h3 : k * L ≤ n * L := Nat.mul_le_mul_right _ hk
      omega
  have HB := hide hb
  clear hb
  have h63 := h.le63
  have hone := Own.lit w (base := w.heap.size) 30 [1] 1 rfl (Nat.le_refl _) (by decide) (Lims.cons (by omega) Lims.nil)
  have hrone := hone.rd
  have hba := below_alloc w (.cells #[Value.int .u32 1] 30)
  clear hone
  go_enter Try.func65, Try.ntmps65
  go_wp2
  go_loopw [3, 9] (fun v i wr => ∃ (k : Nat) (A1 : Option Addr) (n1 c1 : Nat), k ≤ n ∧ i = .int .i64 (k : Int) ∧ v = .slice A1 n1 c1 ∧ Rd wr A1 n1 c1 (limbs (prodV (ll.take k))) ∧ Below w.heap.size w wr) (fun _ i _ => n - (intOf i).toNat)
  case atStart => exact ⟨0, _, 1, 1, Nat.zero_le _, rfl, rfl, hrone, hba⟩
  case round =>
    obtain ⟨k, A1, n1, c1, hk, rfl, rfl, hr, hS⟩ := hrel
    have hn1 : n1 ≤ 1000000001 := by
      have h1 := HB.out k hk
      have := hr.len
      omega
    by_cases hlt : k < n
    · obtain ⟨b, off, Aj, nj, cj, rfl, hb, hcell, hrj⟩ := (h.below hS).at hlt
      have hlj := hrj.len
      have hgd := getD_lt (ll := ll) (k := k) (by rw [h.len]; exact hlt)
      have hnj : nj ≤ 1000000000 := by
        have h1 := hs _ (List.getElem_mem (show k < ll.length by rw [h.len]; exact hlt))
        rw [← hgd] at h1
        omega
      have htk := prodV_take (ll := ll) (k := k) (by rw [h.len]; exact hlt)
      have HT := hide htk
      clear hgd hlj htk
      go_wp2_with fail
      refine (short_lim _ _ _ _ _ hrj).mono ?_
      rintro e w' ⟨q, rfl, hcut, hq, rfl⟩
      go_wp2_with fail
      refine (times_any _ _ _ _ _ _ _ _ _ hr hcut (by omega) (by omega)).mono ?_
      rintro e w2 ⟨A2, n2, c2, rfl, h2, hb2⟩
      rw [val_limbs, val_limbs, ← HT.out] at h2
      clear hcell hcut hr hrj
      go_wp2
      go_roundw
      case rel => exact ⟨k + 1, A2, n2, c2, by omega, by go_num, rfl, h2, below_step hb2 hS⟩
      case measure => simp [intOf]; omega
    · obtain rfl : k = n := by omega
      have ht : ll.take k = ll := List.take_of_length_le (by rw [h.len]; exact Nat.le_refl _)
      rw [ht] at hr
      clear ht hlt
      go_wp2_with fail
      refine (trim_any _ _ _ _ _ hr (by omega)).mono ?_
      rintro e w2 ⟨A2, n2, c2, rfl, h2, hb2⟩
      rw [val_limbs] at h2
      go_wp2
      go_ret
      exact ⟨A2, n2, c2, rfl, h2, below_step hb2 hS⟩
end Go.Proofs.Ytlomanhmpbapeaa
