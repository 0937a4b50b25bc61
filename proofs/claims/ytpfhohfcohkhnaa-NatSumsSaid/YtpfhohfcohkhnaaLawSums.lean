/- The walk of the law NatSums. -/
import Derived.Test.YtpfhohfcohkhnaaSums
namespace Go.Proofs.Ytpfhohfcohkhnaa
open Go.RowKit

theorem addl {w : World} {A : Option Addr} {n c : Nat} {ll : List (List Nat)} (h : RdL w A n c ll) (hs : Short 12 ll) (hn : n ≤ 64) :
    Calls Try.prog 54 #[.slice A n c] w (RetB (sumV ll) 13 w) := by
  refine (add_any A n c ll w h 12 hs (by omega) (by omega)).mono fun _ _ hr => hr.b ?_
  refine Nat.lt_of_le_of_lt (sumV_lt (hs.val h.lims)) ?_
  rw [h.len, show (4294967296 : Nat) ^ 13 = 4294967296 * 4294967296 ^ 12 from Nat.pow_succ']
  exact Nat.mul_lt_mul_of_pos_right (by omega) (Nat.pow_pos (by omega))
theorem mull {K : Nat} (hK : 768 < K) {w : World} {A : Option Addr} {n c : Nat} {ll : List (List Nat)} (h : RdL w A n c ll) (hs : Short 12 ll) (hn : n ≤ 64) :
    Calls Try.prog 55 #[.slice A n c] w (RetB (prodV ll) K w) := by
  refine (mul_any A n c ll w h 12 hs (by omega) (by omega)).mono fun _ _ hr => hr.b ?_
  rcases prodV_lt (hs.val h.lims) with rfl | h1
  · exact Nat.one_lt_pow (by omega) (by omega)
  · rw [h.len] at h1
    exact Nat.lt_of_lt_of_le h1 (Nat.pow_le_pow_right (by omega) (by omega))
theorem short_of {L : Nat} {ll : List (List Nat)} (h : anyLong L ll = false) : Short L ll := fun l hl => anyLong_false h l hl

set_option maxHeartbeats 4000000 in
theorem law_NatSums (w : World) (Aa : Option Addr) (na ca : Nat) (la : List (List Nat)) (ha : RdL w Aa na ca la) (za : Aa = none → ca = 0) (sa : na ≤ 35184372088832) (Ab : Option Addr) (nb cb : Nat) (lb : List (List Nat)) (hb : RdL w Ab nb cb lb) (zb : Ab = none → cb = 0) (sb : nb ≤ 35184372088832) :
    Calls Try.prog 9 #[.slice Aa na ca, .slice Ab nb cb] w (Makes (.bool true) w) := by
  go_enter Try.func9, Try.ntmps9
  go_wp2_with fail
  refine (long_any 12 _ _ _ _ _ ha).mono ?_
  rintro e w1 ⟨rfl, rfl⟩
  cases hlong : anyLong 12 la with
  | true =>
    clear hlong
    go_wp2
    go_ret
    exact ⟨rfl, Below.refl _ _⟩
  | false =>
  have HA := hide (short_of hlong)
  clear hlong
  go_wp2_with fail
  refine (long_any 12 _ _ _ _ _ hb).mono ?_
  rintro e w1 ⟨rfl, rfl⟩
  cases hlong : anyLong 12 lb with
  | true =>
    clear hlong
    go_wp2
    go_ret
    exact ⟨rfl, Below.refl _ _⟩
  | false =>
  have HB := hide (short_of hlong)
  clear hlong
  by_cases hbig : 64 < na + nb
  · have hg : (64 : Int) < (na : Int) + (nb : Int) := by omega
    go_wp2
    go_ret
    exact ⟨rfl, Below.refl _ _⟩
  have hg : ¬ (64 : Int) < (na : Int) + (nb : Int) := by omega
  obtain ⟨i0, hi, hz0, hz1, hz2⟩ := info_parts Try.infoNat
  go_wp2_with (first
    | (at_builtin; refine wpList_append_rdl rfl _ _ _ rfl i0 Try.underlying54 hi hz0 hz1 hz2 _ 0 0 _ _ rfl (OwnL.lit0 _) Aa na ca la rfl ha za na (by omega) (by omega) ?_; intro A1 c1 w1 us1 hown1)
    | (at_builtin; refine wpList_append_rdl rfl _ _ _ rfl i0 Try.underlying54 hi hz0 hz1 hz2 _ _ _ _ _ rfl hown1 Ab nb cb lb rfl hb zb (na + nb) (by omega) (by omega) ?_; intro A2 c2 w2 us2 hown2))
  have HC : Hid (Short 12 (la ++ lb)) := fun l hl => (List.mem_append.mp hl).elim (HA.out l) (HB.out l)
  have e1 : sumV (la ++ lb) = sumV la + sumV lb := sumV_append _ _
  have e2 : prodV (la ++ lb) = prodV la * prodV lb := prodV_append _ _
  have hc := hown2.rdl
  have hS := hown2.bel
  replace ha := ha.below hS
  replace hb := hb.below hS
  clear hown1 hown2 hi hz0 hz1 hz2 hbig hg za zb sa sb
  go_wp2_with fail
  refine (add0 _).mono ?_
  rintro e w3 ⟨A3, n3, c3, rfl, hz, hb3, hn3⟩
  try simp only [val_limbs] at hz
  try simp only [val_nil] at hz
  replace hc := hc.below hb3
  replace ha := ha.below hb3
  replace hb := hb.below hb3
  replace hS := below_step hb3 hS
  clear hb3
  have hn := Rd.nil w3
  rw [← limbs_zero] at hn
  go_wp2_with fail
  refine (same_num_yes hz hn rfl).mono ?_
  rintro e w4 ⟨rfl, hb4⟩
  replace hc := hc.below hb4
  replace ha := ha.below hb4
  replace hb := hb.below hb4
  replace hz := hz.below hb4
  replace hS := below_step hb4 hS
  clear hb4
  clear hz
  clear hn
  go_wp2_with fail
  refine (mul0 _).mono ?_
  rintro e w5 ⟨A5, n5, c5, rfl, ho, hb5, hn5⟩
  try simp only [val_limbs] at ho
  try simp only [val_nil] at ho
  replace hc := hc.below hb5
  replace ha := ha.below hb5
  replace hb := hb.below hb5
  replace hS := below_step hb5 hS
  clear hb5
  have h1 := rd_lit1 (w := w5) (x := 1) (w5.heap.size) (by simp) 1 rfl (by omega) (by omega)
  replace hc := hc.below (below_alloc _ (.cells #[Value.int .u32 1] 56))
  replace ha := ha.below (below_alloc _ (.cells #[Value.int .u32 1] 56))
  replace hb := hb.below (below_alloc _ (.cells #[Value.int .u32 1] 56))
  replace ho := ho.below (below_alloc _ (.cells #[Value.int .u32 1] 56))
  replace hS := below_step (below_alloc _ (.cells #[Value.int .u32 1] 56)) hS
  go_wp2_with fail
  refine (same_num_yes ho h1 rfl).mono ?_
  rintro e w6 ⟨rfl, hb6⟩
  replace hc := hc.below hb6
  replace ha := ha.below hb6
  replace hb := hb.below hb6
  replace ho := ho.below hb6
  replace h1 := h1.below hb6
  replace hS := below_step hb6 hS
  clear hb6
  clear ho h1
  go_wp2_with fail
  refine (addl hc HC.out (by omega)).mono ?_
  rintro e w7 ⟨A7, n7, c7, rfl, hx, hb7, hn7⟩
  try simp only [val_limbs] at hx
  try simp only [val_nil] at hx
  replace hc := hc.below hb7
  replace ha := ha.below hb7
  replace hb := hb.below hb7
  replace hS := below_step hb7 hS
  clear hb7
  go_wp2_with fail
  refine (addl ha HA.out (by omega)).mono ?_
  rintro e w8 ⟨A8, n8, c8, rfl, hy, hb8, hn8⟩
  try simp only [val_limbs] at hy
  try simp only [val_nil] at hy
  replace hc := hc.below hb8
  replace ha := ha.below hb8
  replace hb := hb.below hb8
  replace hx := hx.below hb8
  replace hS := below_step hb8 hS
  clear hb8
  go_wp2_with fail
  refine (addl hb HB.out (by omega)).mono ?_
  rintro e w9 ⟨A9, n9, c9, rfl, hz, hb9, hn9⟩
  try simp only [val_limbs] at hz
  try simp only [val_nil] at hz
  replace hc := hc.below hb9
  replace ha := ha.below hb9
  replace hb := hb.below hb9
  replace hx := hx.below hb9
  replace hy := hy.below hb9
  replace hS := below_step hb9 hS
  clear hb9
  go_wp2_with fail
  refine (radd2 hy hz (by omega) (by omega)).mono ?_
  rintro e w10 ⟨A10, n10, c10, rfl, hu, hb10, hn10⟩
  try simp only [val_limbs] at hu
  try simp only [val_nil] at hu
  replace hc := hc.below hb10
  replace ha := ha.below hb10
  replace hb := hb.below hb10
  replace hx := hx.below hb10
  replace hy := hy.below hb10
  replace hz := hz.below hb10
  replace hS := below_step hb10 hS
  clear hb10
  clear hy hz
  go_wp2_with fail
  refine (same_num_yes hx hu e1).mono ?_
  rintro e w11 ⟨rfl, hb11⟩
  replace hc := hc.below hb11
  replace ha := ha.below hb11
  replace hb := hb.below hb11
  replace hx := hx.below hb11
  replace hu := hu.below hb11
  replace hS := below_step hb11 hS
  clear hb11
  clear hx hu
  go_wp2_with fail
  refine (mull (K := 769) (by omega) hc HC.out (by omega)).mono ?_
  rintro e w12 ⟨A12, n12, c12, rfl, hx, hb12, hn12⟩
  try simp only [val_limbs] at hx
  try simp only [val_nil] at hx
  replace hc := hc.below hb12
  replace ha := ha.below hb12
  replace hb := hb.below hb12
  replace hS := below_step hb12 hS
  clear hb12
  go_wp2_with fail
  refine (mull (K := 769) (by omega) ha HA.out (by omega)).mono ?_
  rintro e w13 ⟨A13, n13, c13, rfl, hy, hb13, hn13⟩
  try simp only [val_limbs] at hy
  try simp only [val_nil] at hy
  replace hc := hc.below hb13
  replace ha := ha.below hb13
  replace hb := hb.below hb13
  replace hx := hx.below hb13
  replace hS := below_step hb13 hS
  clear hb13
  go_wp2_with fail
  refine (mull (K := 769) (by omega) hb HB.out (by omega)).mono ?_
  rintro e w14 ⟨A14, n14, c14, rfl, hz, hb14, hn14⟩
  try simp only [val_limbs] at hz
  try simp only [val_nil] at hz
  replace hc := hc.below hb14
  replace ha := ha.below hb14
  replace hb := hb.below hb14
  replace hx := hx.below hb14
  replace hy := hy.below hb14
  replace hS := below_step hb14 hS
  clear hb14
  go_wp2_with fail
  refine (rmul2 hy hz (by omega) (by omega)).mono ?_
  rintro e w15 ⟨A15, n15, c15, rfl, hu, hb15, hn15⟩
  try simp only [val_limbs] at hu
  try simp only [val_nil] at hu
  replace hc := hc.below hb15
  replace ha := ha.below hb15
  replace hb := hb.below hb15
  replace hx := hx.below hb15
  replace hy := hy.below hb15
  replace hz := hz.below hb15
  replace hS := below_step hb15 hS
  clear hb15
  clear hy hz
  go_wp2_with fail
  refine (same_num_yes hx hu e2).mono ?_
  rintro e w16 ⟨rfl, hb16⟩
  replace hc := hc.below hb16
  replace ha := ha.below hb16
  replace hb := hb.below hb16
  replace hx := hx.below hb16
  replace hu := hu.below hb16
  replace hS := below_step hb16 hS
  clear hb16
  clear hx hu
  go_wp2
  go_ret
  exact ⟨by rfl, hS⟩
end Go.Proofs.Ytpfhohfcohkhnaa
