/- The walk of the law NatExponents. -/
import Derived.Test.YtpfhohfcohkhnaaRefPow
namespace Go.Proofs.Ytpfhohfcohkhnaa
open Go.RowKit

/-- A power that is not too big. -/
theorem pow_yes {w : World} {A : Option Addr} {n c : Nat} {l : List Nat} (h : Rd w A n c l) (z : Int) (k : Nat) (hz : z = (k : Int)) (hn : n ≤ 1000000) (hk : k ≤ 1000000) (hb : n * k ≤ 4095) :
    Calls Try.prog 60 #[.slice A n c, .int .i64 z] w (fun x w' => ∃ A' n' c', x = .returned (.tuple #[.slice A' n' c', .int .i64 0]) ∧ Rd w' A' n' c' (limbs (val l ^ k)) ∧ Below w.heap.size w w' ∧ n' ≤ n * k + 1) := by
  subst hz
  have hl : (limbs (val l ^ k)).length ≤ n * k + 1 := by
    refine length_limbs_le ?_
    by_cases h0 : k = 0
    · subst h0; simp
    · have h1 : val l ^ k < (4294967296 ^ n) ^ k := Nat.pow_lt_pow_left (val_lt_len h) h0
      rw [← Nat.pow_mul] at h1
      exact Nat.lt_of_lt_of_le h1 (Nat.pow_le_pow_right (by omega) (by omega))
  obtain ⟨e1, e2⟩ := powErr_ok (N := val l) (n := k) (by omega)
  refine (pow_any A n c l k w h hn ⟨by omega, by omega⟩).mono ?_
  rintro e w' ⟨A', n', c', hx, hr, hb'⟩
  rw [e1] at hx
  rw [e2] at hr
  exact ⟨A', n', c', hx, hr, hb', by rw [← hr.len]; exact hl⟩

set_option maxHeartbeats 4000000 in
theorem law_NatExponents (w : World) (Aa : Option Addr) (na ca : Nat) (la : List Nat) (ha : Rd w Aa na ca la) (sa : na ≤ 35184372088832) (Ab : Option Addr) (nb cb : Nat) (lb : List Nat) (hb : Rd w Ab nb cb lb) (sb : nb ≤ 35184372088832) (m : Nat) (hm : m < 256) (n : Nat) (hn : n < 256) :
    Calls Try.prog 14 #[.slice Aa na ca, .slice Ab nb cb, .int .u8 (m : Int), .int .u8 (n : Int)] w (Makes (.bool true) w) := by
  by_cases hbig : 8 < na + nb
  · have hg : (8 : Int) < (na : Int) + (nb : Int) := by omega
    go_enter Try.func14, Try.ntmps14
    go_wp2
    go_ret
    exact ⟨rfl, Below.refl _ _⟩
  have hg : ¬ (8 : Int) < (na : Int) + (nb : Int) := by omega
  have hmn : na * (m + n) ≤ 8 * 510 := Nat.mul_le_mul (by omega) (by omega)
  have hm1 : na * m ≤ 8 * 255 := Nat.mul_le_mul (by omega) (by omega)
  have hn1 : na * n ≤ 8 * 255 := Nat.mul_le_mul (by omega) (by omega)
  have hn2 : nb * n ≤ 8 * 255 := Nat.mul_le_mul (by omega) (by omega)
  have hS := Below.refl w.heap.size w
  go_enter Try.func14, Try.ntmps14
  go_wp2_with fail
  refine (pow_yes ha _ (m + n) (by simp) (by omega) (by omega) (by omega)).mono ?_
  rintro e w1 ⟨A1, n1, c1, rfl, hx, hb1, hn1⟩
  try simp only [val_limbs] at hx
  try simp only [val_nil] at hx
  replace ha := ha.below hb1
  replace hb := hb.below hb1
  replace hS := below_step hb1 hS
  clear hb1
  go_wp2_with fail
  refine (pow_yes ha _ m (by simp) (by omega) (by omega) (by omega)).mono ?_
  rintro e w2 ⟨A2, n2, c2, rfl, hy, hb2, hn2⟩
  try simp only [val_limbs] at hy
  try simp only [val_nil] at hy
  replace ha := ha.below hb2
  replace hb := hb.below hb2
  replace hx := hx.below hb2
  replace hS := below_step hb2 hS
  clear hb2
  go_wp2_with fail
  refine (pow_yes ha _ n (by simp) (by omega) (by omega) (by omega)).mono ?_
  rintro e w3 ⟨A3, n3, c3, rfl, hz, hb3, hn3⟩
  try simp only [val_limbs] at hz
  try simp only [val_nil] at hz
  replace ha := ha.below hb3
  replace hb := hb.below hb3
  replace hx := hx.below hb3
  replace hy := hy.below hb3
  replace hS := below_step hb3 hS
  clear hb3
  go_wp2_with fail
  refine (mul2 ha hb _ (by simp) (by omega) (by omega)).mono ?_
  rintro e w4 ⟨A4, n4, c4, rfl, hab, hb4, hn4⟩
  try simp only [val_limbs] at hab
  try simp only [val_nil] at hab
  replace ha := ha.below hb4
  replace hb := hb.below hb4
  replace hx := hx.below hb4
  replace hy := hy.below hb4
  replace hz := hz.below hb4
  replace hS := below_step hb4 hS
  clear hb4
  have hnab : n4 * n ≤ 8 * 255 := Nat.mul_le_mul (by omega) (by omega)
  go_wp2_with fail
  refine (pow_yes hab _ n (by simp) (by omega) (by omega) (by omega)).mono ?_
  rintro e w5 ⟨A5, n5, c5, rfl, hp, hb5, hn5⟩
  try simp only [val_limbs] at hp
  try simp only [val_nil] at hp
  replace ha := ha.below hb5
  replace hb := hb.below hb5
  replace hx := hx.below hb5
  replace hy := hy.below hb5
  replace hz := hz.below hb5
  replace hab := hab.below hb5
  replace hS := below_step hb5 hS
  clear hb5
  clear hab
  go_wp2_with fail
  refine (pow_yes hb _ n (by simp) (by omega) (by omega) (by omega)).mono ?_
  rintro e w6 ⟨A6, n6, c6, rfl, hq, hb6, hn6⟩
  try simp only [val_limbs] at hq
  try simp only [val_nil] at hq
  replace ha := ha.below hb6
  replace hb := hb.below hb6
  replace hx := hx.below hb6
  replace hy := hy.below hb6
  replace hz := hz.below hb6
  replace hp := hp.below hb6
  replace hS := below_step hb6 hS
  clear hb6
  have h2 := rd_lit1 (w := w6) (x := 2) (w6.heap.size) (by simp) 2 rfl (by omega) (by omega)
  replace ha := ha.below (below_alloc _ (.cells #[Value.int .u32 2] 56))
  replace hb := hb.below (below_alloc _ (.cells #[Value.int .u32 2] 56))
  replace hx := hx.below (below_alloc _ (.cells #[Value.int .u32 2] 56))
  replace hy := hy.below (below_alloc _ (.cells #[Value.int .u32 2] 56))
  replace hz := hz.below (below_alloc _ (.cells #[Value.int .u32 2] 56))
  replace hp := hp.below (below_alloc _ (.cells #[Value.int .u32 2] 56))
  replace hq := hq.below (below_alloc _ (.cells #[Value.int .u32 2] 56))
  replace hS := below_step (below_alloc _ (.cells #[Value.int .u32 2] 56)) hS
  go_wp2_with fail
  refine (pow_yes h2 _ 3 (by simp) (by omega) (by omega) (by omega)).mono ?_
  rintro e w7 ⟨A7, n7, c7, rfl, ht, hb7, hn7⟩
  try simp only [val_limbs] at ht
  try simp only [val_nil] at ht
  replace ha := ha.below hb7
  replace hb := hb.below hb7
  replace hx := hx.below hb7
  replace hy := hy.below hb7
  replace hz := hz.below hb7
  replace hp := hp.below hb7
  replace hq := hq.below hb7
  replace h2 := h2.below hb7
  replace hS := below_step hb7 hS
  clear hb7
  clear h2
  have h8 := rd_lit1 (w := w7) (x := 8) (w7.heap.size) (by simp) 8 rfl (by omega) (by omega)
  replace ha := ha.below (below_alloc _ (.cells #[Value.int .u32 8] 56))
  replace hb := hb.below (below_alloc _ (.cells #[Value.int .u32 8] 56))
  replace hx := hx.below (below_alloc _ (.cells #[Value.int .u32 8] 56))
  replace hy := hy.below (below_alloc _ (.cells #[Value.int .u32 8] 56))
  replace hz := hz.below (below_alloc _ (.cells #[Value.int .u32 8] 56))
  replace hp := hp.below (below_alloc _ (.cells #[Value.int .u32 8] 56))
  replace hq := hq.below (below_alloc _ (.cells #[Value.int .u32 8] 56))
  replace ht := ht.below (below_alloc _ (.cells #[Value.int .u32 8] 56))
  replace hS := below_step (below_alloc _ (.cells #[Value.int .u32 8] 56)) hS
  go_wp2_with fail
  refine (same_num_yes ht h8 rfl).mono ?_
  rintro e w8 ⟨rfl, hb8⟩
  replace ha := ha.below hb8
  replace hb := hb.below hb8
  replace hx := hx.below hb8
  replace hy := hy.below hb8
  replace hz := hz.below hb8
  replace hp := hp.below hb8
  replace hq := hq.below hb8
  replace ht := ht.below hb8
  replace h8 := h8.below hb8
  replace hS := below_step hb8 hS
  clear hb8
  clear ht h8
  go_wp2_with fail
  refine (mul2 hy hz _ (by simp) (by omega) (by omega)).mono ?_
  rintro e w9 ⟨A9, n9, c9, rfl, hu, hb9, hn9⟩
  try simp only [val_limbs] at hu
  try simp only [val_nil] at hu
  replace ha := ha.below hb9
  replace hb := hb.below hb9
  replace hx := hx.below hb9
  replace hy := hy.below hb9
  replace hz := hz.below hb9
  replace hp := hp.below hb9
  replace hq := hq.below hb9
  replace hS := below_step hb9 hS
  clear hb9
  clear hy
  go_wp2_with fail
  refine (same_num_yes hx hu (Nat.pow_add _ _ _)).mono ?_
  rintro e w10 ⟨rfl, hb10⟩
  replace ha := ha.below hb10
  replace hb := hb.below hb10
  replace hx := hx.below hb10
  replace hz := hz.below hb10
  replace hp := hp.below hb10
  replace hq := hq.below hb10
  replace hu := hu.below hb10
  replace hS := below_step hb10 hS
  clear hb10
  clear hx hu
  go_wp2_with fail
  refine (mul2 hz hq _ (by simp) (by omega) (by omega)).mono ?_
  rintro e w11 ⟨A11, n11, c11, rfl, hu, hb11, hn11⟩
  try simp only [val_limbs] at hu
  try simp only [val_nil] at hu
  replace ha := ha.below hb11
  replace hb := hb.below hb11
  replace hz := hz.below hb11
  replace hp := hp.below hb11
  replace hq := hq.below hb11
  replace hS := below_step hb11 hS
  clear hb11
  clear hz hq
  go_wp2_with fail
  refine (same_num_yes hp hu (Nat.mul_pow _ _ _)).mono ?_
  rintro e w12 ⟨rfl, hb12⟩
  replace ha := ha.below hb12
  replace hb := hb.below hb12
  replace hp := hp.below hb12
  replace hu := hu.below hb12
  replace hS := below_step hb12 hS
  clear hb12
  clear hp hu
  go_wp2
  go_ret
  exact ⟨by rfl, hS⟩
end Go.Proofs.Ytpfhohfcohkhnaa
