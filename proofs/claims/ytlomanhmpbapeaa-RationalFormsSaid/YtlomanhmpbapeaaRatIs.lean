/- The walks of equal, of Is on both sides, and of the law's look at lengths; lists of rationals in memory. -/
import Derived.Test.YtlomanhmpbapeaaRatMake
namespace Go.Proofs.Ytlomanhmpbapeaa
open Go.RowKit

theorem limbs_of_len {l : List Nat} {x : Nat} (hl : Lims l) (hn : l.length = (limbs x).length) (hv : val l = x) : l = limbs x := by
  subst hv
  have h1 := take_keep hl
  have h2 := congrArg List.length h1
  rw [List.length_take] at h2
  have h3 := keep_le l l.length
  rw [← h1, List.take_of_length_le]
  omega

set_option maxHeartbeats 400000 in
theorem equal_any (A : Option Addr) (n c : Nat) (l : List Nat) (B : Option Addr) (m d x : Nat) (w : World) (h : Rd w A n c l) (h' : Rd w B m d (limbs x)) :
    Calls Try.prog 63 #[.slice A n c, .slice B m d] w (Makes (.bool (decide (l = limbs x))) w) := by
  by_cases hn : n = m
  · subst hn
    have hcall := cmp_any _ _ _ _ _ _ _ _ _ h h'
    rw [val_limbs] at hcall
    by_cases hv : val l = x
    · have HR : Hid (decide (l = limbs x) = true) := decide_eq_true (limbs_of_len h.lims (by rw [h.len, h'.len]) hv)
      rw [cmpV_eq hv] at hcall
      clear hv
      go_enter Try.func63, Try.ntmps63
      go_wp2_with fail
      refine hcall.mono ?_
      rintro e w1 ⟨rfl, hb⟩
      clear hcall
      go_wp2
      go_ret
      rw [HR.out]
      exact ⟨rfl, hb⟩
    · have HR : Hid (decide (l = limbs x) = false) := decide_eq_false (fun h9 => hv (by rw [h9, val_limbs]))
      have hne : (cmpV (val l) x == 0) = false := by
        unfold cmpV
        split
        · rfl
        · split
          · rfl
          · omega
      generalize cmpV (val l) x = cv at *
      clear hv
      go_enter Try.func63, Try.ntmps63
      go_wp2_with fail
      refine hcall.mono ?_
      rintro e w1 ⟨rfl, hb⟩
      clear hcall
      go_wp2
      go_ret
      rw [HR.out]
      exact ⟨rfl, hb⟩
  · have HR : Hid (decide (l = limbs x) = false) := decide_eq_false (fun h9 => hn (by rw [← h.len, ← h'.len, h9]))
    have hne : ((n : Int) == (m : Int)) = false := by simp; omega
    clear hn
    go_enter Try.func63, Try.ntmps63
    go_wp2
    go_ret
    rw [HR.out]
    exact ⟨rfl, Below.refl _ _⟩

/-- Is the datum the canonical one of its value? -/
def isV (s : Bool) (ln ld : List Nat) (q : Rat) : Bool := decide (s = qneg q) && decide (ln = limbs q.num.natAbs) && decide (ld = limbs q.den)

set_option maxHeartbeats 1000000 in
theorem is_q (s : Bool) (A : Option Addr) (n c : Nat) (ln : List Nat) (B : Option Addr) (m d : Nat) (ld : List Nat) (q : Rat) (K : Nat) (w : World) (h : Rd w A n c ln) (h' : Rd w B m d ld) (he : ratOf s (val ln) (val ld) = q) (hn : n ≤ K) (hm : m ≤ K) (hK1 : 1 ≤ K) (hK : K ≤ 10000) :
    Calls Try.prog 26 #[.agg #[.bool s, .slice A n c, .slice B m d]] w (Makes (.bool (isV s ln ld q)) w) := by
  obtain ⟨W, hW, hS, q1⟩ := box1 w s A n c B m d
  have hr : RawQ w s A n c B m d q K := ⟨⟨ln, ld, h, h', he⟩, hn, hm⟩
  replace hr := hr.below hS
  have h1 := h.below hS
  have h2 := h'.below hS
  have hc1 := q1.cells
  have HW := hide hW
  clear hW he
  go_enter Try.func26, Try.ntmps26
  go_wp2_with fail
  rw [← HW.out]
  refine (trim_q s A n c B m d q K _ hr hK1 hK).mono ?_
  rintro e w1 ⟨A', n', c', B', m', d', rfl, hcan, hb⟩
  obtain ⟨W2, hW2, hS2, q3⟩ := box1 w1 (qneg q) A' n' c' B' m' d'
  have HW2 := hide hW2
  have hB := below_step hS2 hb
  have q12 := (q1.below hb).below hS2
  have hcan2 := hcan.below hS2
  replace h1 := h1.below hB
  replace h2 := h2.below hB
  have hz := (q1.below hb).2
  clear hW2 hc1 hr
  have hc1 := (q1.below hb).cells
  generalize hu : qneg q = u at *
  by_cases hs : s = u
  · subst hs
    have hcall := equal_any _ _ _ _ _ _ _ _ _ h1 hcan2.num
    by_cases hl : ln = limbs q.num.natAbs
    · rw [decide_eq_true hl] at hcall
      have HR : Hid (isV s ln ld q = decide (ld = limbs q.den)) := by rw [Hid, isV, hu, decide_eq_true rfl, decide_eq_true hl]; rfl
      clear hl hu
      go_wp2_with fail
      rw [← HW2.out]
      refine hcall.mono ?_
      rintro e w2 ⟨rfl, hb2⟩
      clear hcall hc1
      have hc1 := (q12.below hb2).cells
      have hc3 := (q3.below hb2).cells
      go_wp2_with fail
      refine (equal_any _ _ _ _ _ _ _ _ _ (h2.below hb2) (hcan2.den.below hb2)).mono ?_
      rintro e w3 ⟨rfl, hb3⟩
      go_wp2
      go_ret
      rw [HR.out]
      exact ⟨rfl, below_step hb3 (below_step hb2 (below_step hB hS))⟩
    · rw [decide_eq_false hl] at hcall
      have HR : Hid (isV s ln ld q = false) := by rw [Hid, isV, decide_eq_false hl]; simp
      clear hl hu
      go_wp2_with fail
      rw [← HW2.out]
      refine hcall.mono ?_
      rintro e w2 ⟨rfl, hb2⟩
      clear hcall hc1
      go_wp2
      go_ret
      rw [HR.out]
      exact ⟨rfl, below_step hb2 (below_step hB hS)⟩
  · have hsb : (s == u) = false := by simpa using hs
    have HR : Hid (isV s ln ld q = false) := by rw [Hid, isV, hu, decide_eq_false hs]; rfl
    clear hs hu
    go_wp2_with fail
    rw [← HW2.out]
    go_ret
    rw [HR.out]
    exact ⟨rfl, below_step hB hS⟩
end Go.Proofs.Ytlomanhmpbapeaa
