/- The walks of the reference's Floor and Whole. -/
import Derived.Test.YtlomanhmpbapeaaRatFloor
namespace Go.Proofs.Ytlomanhmpbapeaa
open Go.RowKit

set_option maxHeartbeats 4000000 in
theorem rwhole_any (s : Bool) (A : Option Addr) (n c : Nat) (B : Option Addr) (m d : Nat) (q : Rat) (K : Nat) (w : World) (h : RawQ w s A n c B m d q K) (hK1 : 1 ≤ K) (hK : K ≤ 900) :
    Calls Try.prog 45 #[.agg #[.bool s, .slice A n c, .slice B m d]] w (RetW q K w) := by
  obtain ⟨W0, hW0, hS, q1⟩ := box1 w s A n c B m d
  have hr := h.below hS
  have HW := hide hW0
  clear hW0 h
  go_enter Try.func45, Try.ntmps45
  go_wp2_with fail
  rw [← HW.out]
  refine (rtrim_q _ _ _ _ _ _ _ _ K _ hr hK1 (by omega)).mono ?_
  rintro e w1 ⟨A', n', c', B', m', d', rfl, hcan, hb1⟩
  have q11 := q1.below hb1
  have hcg := q11.cells
  have hfg := q11.free
  have hno := q11.noNum
  have hBs := below_step hb1 hS
  have e1 := hcan.num
  have e2 := hcan.den
  have hcl := hcan.hn
  clear hr q1 hS
  by_cases hs : qneg q = true
  · have HQ := hide (wholeQ_neg hs)
    rw [hs]
    clear hs
    go_wp2
    go_ret2
    exact retW_no HQ.out (below3 hBs (Nat.le_refl _) _ _ _)
  · have hs' : qneg q = false := by simpa using hs
    rw [hs']
    by_cases hd : q.den = 1
    · have HQ := hide (wholeQ_yes hs' hd)
      have HC : Hid (decide (limbs q.den = limbs 1) = true) := by rw [Hid, hd]; simp
      clear hs hd hs'
      go_wp2_with fail
      refine (rsame_any _ _ _ _ _ _ _ _ (k := limbs 1) (Rd.upAlloc (Rd.store3 e2 hno)) (rd_one _ _ (by simp))).mono ?_
      rw [HC.out]
      rintro e w3 ⟨rfl, hb3⟩
      have hx := (((q11.store3 false A' n' c' B' m' d').below (below_alloc _ (.cells #[.int .u32 1] 30))).below hb3).cells
      clear hcg hfg
      have hB3 := below_step hb3 ((below3 hBs (Nat.le_refl _) (.bool false) (.slice A' n' c') (.slice B' m' d')).alloc (by simp; have := q11.2; omega) (.cells #[.int .u32 1] 30))
      have hr3 := (Rd.upAlloc (o := .cells #[.int .u32 1] 30) (Rd.store3 (a := .bool false) (b := .slice A' n' c') (e := .slice B' m' d') e1 hno)).below hb3
      go_wp2
      go_ret2
      exact ⟨A', n', c', by rw [HQ.out]; rfl, by rw [HQ.out]; exact hr3, hcl, hB3⟩
    · have HQ := hide (wholeQ_den hd)
      have HC : Hid (decide (limbs q.den = limbs 1) = false) := by
        rw [Hid]
        refine decide_eq_false (fun h => hd ?_)
        have := congrArg val h
        rwa [val_limbs, val_limbs] at this
      clear hs hd hs'
      go_wp2_with fail
      refine (rsame_any _ _ _ _ _ _ _ _ (k := limbs 1) (Rd.upAlloc (Rd.store3 e2 hno)) (rd_one _ _ (by simp))).mono ?_
      rw [HC.out]
      rintro e w3 ⟨rfl, hb3⟩
      have hB3 := below_step hb3 ((below3 hBs (Nat.le_refl _) (.bool false) (.slice A' n' c') (.slice B' m' d')).alloc (by simp; have := q11.2; omega) (.cells #[.int .u32 1] 30))
      go_wp2
      go_ret2
      exact retW_no HQ.out hB3
end Go.Proofs.Ytlomanhmpbapeaa
