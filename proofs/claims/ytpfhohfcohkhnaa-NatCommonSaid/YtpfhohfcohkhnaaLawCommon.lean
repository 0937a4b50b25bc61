/- The walk of the law NatCommon. -/
import Derived.Test.YtpfhohfcohkhnaaGcd
namespace Go.Proofs.Ytpfhohfcohkhnaa
open Go.RowKit

theorem len_zero {w : World} {A : Option Addr} {n c x : Nat} (h : Rd w A n c (limbs x)) (hx : x = 0) : n = 0 := by
  subst hx
  have := h.len
  rw [limbs_zero] at this
  simpa using this.symm
theorem len_pos {w : World} {A : Option Addr} {n c x : Nat} (h : Rd w A n c (limbs x)) (hx : x ≠ 0) : n ≠ 0 := by
  have := limbs_len_pos hx
  rwa [h.len] at this
theorem ne_false {n : Nat} (h : n ≠ 0) : ((n : Int) != 0) = true := by simp; exact h
theorem eq_false' {n : Nat} (h : n ≠ 0) : ((n : Int) == 0) = false := by simp; exact h

set_option maxHeartbeats 8000000 in
theorem law_NatCommon (w : World) (Aa : Option Addr) (na ca : Nat) (la : List Nat) (ha : Rd w Aa na ca la) (Ab : Option Addr) (nb cb : Nat) (lb : List Nat) (hb : Rd w Ab nb cb lb) (Ac : Option Addr) (nc cc : Nat) (lc : List Nat) (hc : Rd w Ac nc cc lc) :
    Calls Try.prog 18 #[.slice Aa na ca, .slice Ab nb cb, .slice Ac nc cc] w (Makes (.bool true) w) := by
  have hS := below_alloc w (.cells #[.slice Aa na ca, .slice Ab nb cb, .slice Ac nc cc] 42)
  have hL := rdl_three 42 ha hb hc
  go_enter Try.func18, Try.ntmps18
  go_wp2_with fail
  refine (long_any 20 _ 3 3 _ _ hL).mono ?_
  rintro e w0 ⟨rfl, hw0⟩
  subst hw0
  cases hlong : anyLong 20 [la, lb, lc] with
  | true =>
    clear hlong
    go_wp2
    go_ret
    exact ⟨rfl, hS⟩
  | false =>
    have hna : na ≤ 20 := by
      have := anyLong_false hlong la (by simp)
      have := ha.len
      omega
    have hnb : nb ≤ 20 := by
      have := anyLong_false hlong lb (by simp)
      have := hb.len
      omega
    have hnc : nc ≤ 20 := by
      have := anyLong_false hlong lc (by simp)
      have := hc.len
      omega
    clear hlong hL
    obtain ⟨w0, hw0⟩ : ∃ w0, w0 = World.alloc w (.cells #[.slice Aa na ca, .slice Ab nb cb, .slice Ac nc cc] 42) := ⟨_, rfl⟩
    rw [← hw0] at hS ⊢
    have ha : Rd w0 Aa na ca la := by rw [hw0]; exact ha.below (below_alloc w (.cells #[.slice Aa na ca, .slice Ab nb cb, .slice Ac nc cc] 42))
    have hb : Rd w0 Ab nb cb lb := by rw [hw0]; exact hb.below (below_alloc w (.cells #[.slice Aa na ca, .slice Ab nb cb, .slice Ac nc cc] 42))
    have hc : Rd w0 Ac nc cc lc := by rw [hw0]; exact hc.below (below_alloc w (.cells #[.slice Aa na ca, .slice Ab nb cb, .slice Ac nc cc] 42))
    clear hw0
    go_wp2_with fail
    refine (gcd1 ha hb (by omega) (by omega)).mono ?_
    rintro e w1 ⟨A1, n1, c1, rfl, hg, hb1, hn1⟩
    try simp only [val_limbs] at hg
    try simp only [val_nil] at hg
    replace ha := ha.below hb1
    replace hb := hb.below hb1
    replace hc := hc.below hb1
    replace hS := below_step hb1 hS
    clear hb1
    have h12 := rd_lit1 (w := w1) (x := 12) (w1.heap.size) (by simp) 12 rfl (by omega) (by omega)
    replace ha := ha.below (below_alloc _ (.cells #[Value.int .u32 12] 56))
    replace hb := hb.below (below_alloc _ (.cells #[Value.int .u32 12] 56))
    replace hc := hc.below (below_alloc _ (.cells #[Value.int .u32 12] 56))
    replace hg := hg.below (below_alloc _ (.cells #[Value.int .u32 12] 56))
    replace hS := below_step (below_alloc _ (.cells #[Value.int .u32 12] 56)) hS
    have h18 := rd_lit1 (w := (World.alloc w1 (.cells #[Value.int .u32 12] 56))) (x := 18) (w1.heap.size + 1) (by simp) 18 rfl (by omega) (by omega)
    replace ha := ha.below (below_alloc _ (.cells #[Value.int .u32 18] 56))
    replace hb := hb.below (below_alloc _ (.cells #[Value.int .u32 18] 56))
    replace hc := hc.below (below_alloc _ (.cells #[Value.int .u32 18] 56))
    replace hg := hg.below (below_alloc _ (.cells #[Value.int .u32 18] 56))
    replace h12 := h12.below (below_alloc _ (.cells #[Value.int .u32 18] 56))
    replace hS := below_step (below_alloc _ (.cells #[Value.int .u32 18] 56)) hS
    go_wp2_with fail
    refine (gcd1 h12 h18 (by omega) (by omega)).mono ?_
    rintro e w2 ⟨A2, n2, c2, rfl, hx, hb2, hn2⟩
    try simp only [val_limbs] at hx
    try simp only [val_nil] at hx
    replace ha := ha.below hb2
    replace hb := hb.below hb2
    replace hc := hc.below hb2
    replace hg := hg.below hb2
    replace h12 := h12.below hb2
    replace h18 := h18.below hb2
    replace hS := below_step hb2 hS
    clear hb2
    clear h12 h18
    have h6 := rd_lit1 (w := w2) (x := 6) (w2.heap.size) (by simp) 6 rfl (by omega) (by omega)
    replace ha := ha.below (below_alloc _ (.cells #[Value.int .u32 6] 56))
    replace hb := hb.below (below_alloc _ (.cells #[Value.int .u32 6] 56))
    replace hc := hc.below (below_alloc _ (.cells #[Value.int .u32 6] 56))
    replace hg := hg.below (below_alloc _ (.cells #[Value.int .u32 6] 56))
    replace hx := hx.below (below_alloc _ (.cells #[Value.int .u32 6] 56))
    replace hS := below_step (below_alloc _ (.cells #[Value.int .u32 6] 56)) hS
    go_wp2_with fail
    refine (same_num_yes hx h6 (by decide)).mono ?_
    rintro e w3 ⟨rfl, hb3⟩
    replace ha := ha.below hb3
    replace hb := hb.below hb3
    replace hc := hc.below hb3
    replace hg := hg.below hb3
    replace hx := hx.below hb3
    replace h6 := h6.below hb3
    replace hS := below_step hb3 hS
    clear hb3
    clear hx h6
    by_cases h0 : Nat.gcd (val la) (val lb) = 0
    · have hn0 := len_zero hg h0
      subst hn0
      have hza := hide (Nat.eq_zero_of_gcd_eq_zero_left h0)
      have hzb := hide (Nat.eq_zero_of_gcd_eq_zero_right h0)
      clear h0
      go_wp2_with fail
      refine (trim1 ha (by omega)).mono ?_
      rintro e w4 ⟨A4, n4, c4, rfl, hx, hb4, hn4⟩
      try simp only [val_limbs] at hx
      try simp only [val_nil] at hx
      replace ha := ha.below hb4
      replace hb := hb.below hb4
      replace hc := hc.below hb4
      replace hg := hg.below hb4
      replace hS := below_step hb4 hS
      clear hb4
      have hx0 := len_zero hx hza.out
      subst hx0
      go_wp2_with fail
      refine (trim1 hb (by omega)).mono ?_
      rintro e w5 ⟨A5, n5, c5, rfl, hy, hb5, hn5⟩
      try simp only [val_limbs] at hy
      try simp only [val_nil] at hy
      replace ha := ha.below hb5
      replace hb := hb.below hb5
      replace hc := hc.below hb5
      replace hg := hg.below hb5
      replace hx := hx.below hb5
      replace hS := below_step hb5 hS
      clear hb5
      have hy0 := len_zero hy hzb.out
      subst hy0
      go_wp2
      go_ret
      exact ⟨by rfl, hS⟩
    · have hn0 := len_pos hg h0
      have hq := eq_false' hn0
      have HD1 := hide (Nat.mod_eq_zero_of_dvd (Nat.gcd_dvd_left (val la) (val lb)))
      have HD2 := hide (Nat.mod_eq_zero_of_dvd (Nat.gcd_dvd_right (val la) (val lb)))
      obtain ⟨G, hG⟩ : ∃ G, G = Nat.gcd (val la) (val lb) := ⟨_, rfl⟩
      rw [← hG] at hg h0 HD1 HD2
      have HG := hide hG
      have HG0 := hide h0
      clear hG h0
      have hcall := divmod1 ha hg (by omega) (by omega) (by rw [val_limbs]; exact HG0.out)
      rw [val_limbs, HD1.out] at hcall
      go_wp2_with fail
      refine (hcall).mono ?_
      rintro e w4 ⟨A4q, n4q, c4q, A4, n4, c4, rfl, -, hx, hb4, hn4q, hn4⟩
      try simp only [val_limbs] at hx
      replace ha := ha.below hb4
      replace hb := hb.below hb4
      replace hc := hc.below hb4
      replace hg := hg.below hb4
      replace hS := below_step hb4 hS
      clear hb4
      clear hcall
      have hx0 := len_zero hx rfl
      subst hx0
      clear hx
      have hcall := divmod1 hb hg (by omega) (by omega) (by rw [val_limbs]; exact HG0.out)
      rw [val_limbs, HD2.out] at hcall
      go_wp2_with fail
      refine (hcall).mono ?_
      rintro e w5 ⟨A5q, n5q, c5q, A5, n5, c5, rfl, -, hx, hb5, hn5q, hn5⟩
      try simp only [val_limbs] at hx
      replace ha := ha.below hb5
      replace hb := hb.below hb5
      replace hc := hc.below hb5
      replace hg := hg.below hb5
      replace hS := below_step hb5 hS
      clear hb5
      clear hcall
      have hx0 := len_zero hx rfl
      subst hx0
      clear hx
      by_cases hc0 : val lc = 0
      · have hcall := divmod_zero _ _ _ _ _ _ _ _ _ ha hc hc0
        go_wp2_with fail
        refine (hcall).mono ?_
        rintro e w7 ⟨A7q, n7q, c7q, A7, n7, c7, rfl, -, -, hb7⟩
        replace ha := ha.below hb7
        replace hb := hb.below hb7
        replace hc := hc.below hb7
        replace hg := hg.below hb7
        replace hS := below_step hb7 hS
        clear hb7
        clear hcall
        have hcall := divmod_zero _ _ _ _ _ _ _ _ _ hb hc hc0
        go_wp2_with fail
        refine (hcall).mono ?_
        rintro e w8 ⟨A8q, n8q, c8q, A8, n8, c8, rfl, -, -, hb8⟩
        replace ha := ha.below hb8
        replace hb := hb.below hb8
        replace hc := hc.below hb8
        replace hg := hg.below hb8
        replace hS := below_step hb8 hS
        clear hb8
        clear hcall hc0
        go_wp2
        go_ret
        exact ⟨by rfl, hS⟩
      · have HC0 := hide hc0
        clear hc0
        go_wp2_with fail
        refine (divmod1 ha hc (by omega) (by omega) HC0.out).mono ?_
        rintro e w6 ⟨A6q, n6q, c6q, A6, n6, c6, rfl, -, hx, hb6, hn6q, hn6⟩
        try simp only [val_limbs] at hx
        replace ha := ha.below hb6
        replace hb := hb.below hb6
        replace hc := hc.below hb6
        replace hg := hg.below hb6
        replace hS := below_step hb6 hS
        clear hb6
        go_wp2_with fail
        refine (divmod1 hb hc (by omega) (by omega) HC0.out).mono ?_
        rintro e w7 ⟨A7q, n7q, c7q, A7, n7, c7, rfl, -, hy, hb7, hn7q, hn7⟩
        try simp only [val_limbs] at hy
        replace ha := ha.below hb7
        replace hb := hb.below hb7
        replace hc := hc.below hb7
        replace hg := hg.below hb7
        replace hx := hx.below hb7
        replace hS := below_step hb7 hS
        clear hb7
        by_cases hxy : val la % val lc = 0 ∧ val lb % val lc = 0
        · have hx0 := len_zero hx hxy.1
          have hy0 := len_zero hy hxy.2
          subst hx0 hy0
          have HZ : Hid (G % val lc = 0) := by rw [Hid, HG.out]; exact Nat.mod_eq_zero_of_dvd (Nat.dvd_gcd (Nat.dvd_of_mod_eq_zero hxy.1) (Nat.dvd_of_mod_eq_zero hxy.2))
          clear hxy
          have hcall := divmod1 hg hc (by omega) (by omega) HC0.out
          rw [val_limbs, HZ.out] at hcall
          go_wp2_with fail
          refine (hcall).mono ?_
          rintro e w8 ⟨A8q, n8q, c8q, A8, n8, c8, rfl, -, hz, hb8, hn8q, hn8⟩
          try simp only [val_limbs] at hz
          replace ha := ha.below hb8
          replace hb := hb.below hb8
          replace hc := hc.below hb8
          replace hg := hg.below hb8
          replace hx := hx.below hb8
          replace hy := hy.below hb8
          replace hS := below_step hb8 hS
          clear hb8
          clear hcall
          have hz0 := len_zero hz rfl
          subst hz0
          clear hz
          go_wp2
          go_ret
          exact ⟨by rfl, hS⟩
        · by_cases hx0 : val la % val lc = 0
          · have hy1 := ne_false (len_pos hy (fun h9 => hxy ⟨hx0, h9⟩))
            have hx2 := len_zero hx hx0
            subst hx2
            clear hxy hx0
            go_wp2
            go_ret
            exact ⟨by rfl, hS⟩
          · have hx1 := ne_false (len_pos hx hx0)
            clear hxy hx0
            go_wp2
            go_ret
            exact ⟨by rfl, hS⟩
end Go.Proofs.Ytpfhohfcohkhnaa
