/- The walks of Make, and of Trim, Neg, Sign and Same on both sides. -/
import Derived.Test.YtfggecdgnidhfaaDoorRatOps
namespace Go.Proofs.YtfggecdgnidhfaaDoor
open Go.RowKit

theorem box2 (w : World) (s : Bool) (A : Option Addr) (n c : Nat) (B : Option Addr) (m d : Nat) :
    ∃ W, W = (w.alloc (.cells #[.bool s, .slice A n c, .slice B m d] 33)).alloc (.cells #[.bool false, .slice none 0 0, .slice none 0 0] 33) ∧ Below w.heap.size w W ∧ BoxQ W w.heap.size s A n c B m d ∧ BoxQ W (w.heap.size + 1) false none 0 0 none 0 0 := by
  refine ⟨_, rfl, ((Below.refl _ _).alloc (Nat.le_refl _) _).alloc (by simp) _, (BoxQ.new w _ _ _ _ _ _ _).below (below_alloc _ _), ?_⟩
  have := BoxQ.new (w.alloc (.cells #[.bool s, .slice A n c, .slice B m d] 33)) false none 0 0 none 0 0
  simpa using this
theorem box1 (w : World) (s : Bool) (A : Option Addr) (n c : Nat) (B : Option Addr) (m d : Nat) :
    ∃ W, W = w.alloc (.cells #[.bool s, .slice A n c, .slice B m d] 33) ∧ Below w.heap.size w W ∧ BoxQ W w.heap.size s A n c B m d :=
  ⟨_, rfl, below_alloc w _, BoxQ.new w _ _ _ _ _ _ _⟩

set_option maxHeartbeats 1000000 in
theorem trim_q (s : Bool) (A : Option Addr) (n c : Nat) (B : Option Addr) (m d : Nat) (q : Rat) (K : Nat) (w : World) (h : RawQ w s A n c B m d q K) (hK1 : 1 ≤ K) (hK : K ≤ 10000) :
    Calls Tryd.prog 29 #[.agg #[.bool s, .slice A n c, .slice B m d]] w (RetQ q K w) := by
  obtain ⟨W, hW, hS, q1, q3⟩ := box2 w s A n c B m d
  obtain ⟨⟨ln, ld, h1, h2, he⟩, hn, hm⟩ := h.below hS
  have HW := hide hW
  have HE := hide he
  clear hW he h
  go_enter Tryd.func29, Tryd.ntmps29
  go_wp2_with fail
  rw [← HW.out]
  refine (canonical_eq h1 h2 HE.out hn hm hK1 hK).mono ?_
  rintro e w1 ⟨A', n', c', B', m', d', rfl, hcan, hb⟩
  have q31 := q3.below hb
  have hcg := q31.cells
  have hfg := q31.free
  go_wp2
  exact bodyPost_ret (v := .agg #[.bool (qneg q), .slice A' n' c', .slice B' m' d']) (by simp [results, Tryd.results29, go_sem, hcg]) rfl ⟨A', n', c', B', m', d', rfl, hcan.store3 q31.noNum, below3 (below_step hb hS) (by omega) _ _ _⟩

theorem can_zero_lit (w1 : World) {K g g' : Nat} (hK1 : 1 ≤ K) (hg : g = w1.heap.size) (hg' : g' = w1.heap.size + 1) : CanQ ((w1.alloc (.cells #[] 40)).alloc (.cells #[.int .u32 1] 40)) (some ⟨g, 0, none⟩) 0 0 (some ⟨g', 0, none⟩) 1 1 0 K := by
  subst hg hg'
  refine ⟨?_, rd_one _ _ (by simp), Nat.zero_le _, hK1⟩
  rw [show (0 : Rat).num.natAbs = 0 from rfl, limbs_zero]
  exact (Own.lit0 w1 (base := w1.heap.size) 40 (Nat.le_refl _)).rd.below (below_alloc _ _)

set_option maxHeartbeats 1000000 in
theorem make_any (s : Bool) (A : Option Addr) (n c : Nat) (ln : List Nat) (B : Option Addr) (m d : Nat) (ld : List Nat) (w : World) (h : Rd w A n c ln) (h' : Rd w B m d ld) (K : Nat) (hn : n ≤ K) (hm : m ≤ K) (hK1 : 1 ≤ K) (hK : K ≤ 1000) :
    Calls Tryd.prog 36 #[.bool s, .slice A n c, .slice B m d] w (RetQ (ratOf s (val ln) (val ld)) K w) := by
  obtain ⟨W, hW, hS, q3⟩ := box1 w false none 0 0 none 0 0
  have ha := h.below hS
  have ha' := h'.below hS
  have HW := hide hW
  clear hW
  have hz0 := q3.2
  by_cases h1 : val ln = 0
  · have HZ : Hid (ratOf s (val ln) (val ld) = 0) := by rw [Hid, h1, ratOf_zero_num]
    have H1 := hide h1
    clear h1
    go_enter Tryd.func36, Tryd.ntmps36
    go_wp2_with fail
    rw [← HW.out]
    refine (rzero_any _ _ _ _ _ ha (by omega) true (decide_eq_true H1.out)).mono ?_
    rintro e w1 ⟨rfl, hb1⟩
    have q31 := q3.below hb1
    have hcg := q31.cells
    have hfg := q31.free
    have hz := q31.2
    go_wp2
    exact bodyPost_ret (v := .agg #[.bool false, .slice (some ⟨w1.heap.size, 0, none⟩) 0 0, .slice (some ⟨w1.heap.size + 1, 0, none⟩) 1 1]) (by simp [results, Tryd.results36, go_sem, hcg, hz]) rfl
      ⟨_, _, _, _, _, _, by rw [HZ.out]; rfl, by rw [HZ.out]; exact can_zero_lit _ hK1 (by simp) (by simp), ((below3 (below_step hb1 hS) (Nat.le_refl _) _ _ _).alloc (by simp; omega) _).alloc (by simp; omega) _⟩
  · by_cases h2 : val ld = 0
    · have HZ : Hid (ratOf s (val ln) (val ld) = 0) := by rw [Hid, h2, ratOf_zero_den]
      have H1 := hide h1
      have H2 := hide h2
      clear h1 h2
      go_enter Tryd.func36, Tryd.ntmps36
      go_wp2_with fail
      rw [← HW.out]
      refine (rzero_any _ _ _ _ _ ha (by omega) false (decide_eq_false H1.out)).mono ?_
      rintro e w1 ⟨rfl, hb1⟩
      replace ha' := ha'.below hb1
      go_wp2_with fail
      refine (rzero_any _ _ _ _ _ ha' (by omega) true (decide_eq_true H2.out)).mono ?_
      rintro e w2 ⟨rfl, hb2⟩
      have hB2 := below_step hb2 hb1
      have q31 := q3.below hB2
      have hcg := q31.cells
      have hfg := q31.free
      have hz := q31.2
      go_wp2
      exact bodyPost_ret (v := .agg #[.bool false, .slice (some ⟨w2.heap.size, 0, none⟩) 0 0, .slice (some ⟨w2.heap.size + 1, 0, none⟩) 1 1]) (by simp [results, Tryd.results36, go_sem, hcg, hz]) rfl
        ⟨_, _, _, _, _, _, by rw [HZ.out]; rfl, by rw [HZ.out]; exact can_zero_lit _ hK1 (by simp) (by simp), ((below3 (below_step hB2 hS) (Nat.le_refl _) _ _ _).alloc (by simp; omega) _).alloc (by simp; omega) _⟩
    · have H1 := hide h1
      have H2 := hide h2
      clear h1 h2
      go_enter Tryd.func36, Tryd.ntmps36
      go_wp2_with fail
      rw [← HW.out]
      refine (rzero_any _ _ _ _ _ ha (by omega) false (decide_eq_false H1.out)).mono ?_
      rintro e w1 ⟨rfl, hb1⟩
      replace ha := ha.below hb1
      replace ha' := ha'.below hb1
      go_wp2_with fail
      refine (rzero_any _ _ _ _ _ ha' (by omega) false (decide_eq_false H2.out)).mono ?_
      rintro e w2 ⟨rfl, hb2⟩
      replace ha := ha.below hb2
      replace ha' := ha'.below hb2
      go_wp2_with fail
      refine (rgcd_any _ _ _ _ _ _ _ _ _ ha ha' (by omega) (by omega)).mono ?_
      rintro e w3 ⟨A1, n1, c1, rfl, hg, hb3⟩
      replace ha := ha.below hb3
      replace ha' := ha'.below hb3
      have hg0 : Nat.gcd (val ln) (val ld) ≠ 0 := by
        have := Nat.gcd_pos_of_pos_left (val ld) (Nat.pos_of_ne_zero H1.out)
        omega
      have HG0 := hide hg0
      have hgn : n1 ≤ K := by
        rw [← hg.len]
        exact length_limbs_le (Nat.lt_of_le_of_lt (Nat.gcd_le_left _ (Nat.pos_of_ne_zero H1.out)) (Nat.lt_of_lt_of_le (val_lt_len h) (pow_le_pow_limb hn)))
      clear hg0
      go_wp2_with fail
      refine (rdivmod_any _ _ _ _ _ _ _ _ _ ha hg (by omega) (by omega) (by rw [val_limbs]; exact HG0.out)).mono ?_
      rintro e w4 ⟨A2, n2, c2, A2', n2', c2', rfl, hq1, -, hb4⟩
      rw [val_limbs] at hq1
      replace ha' := ha'.below hb4
      replace hg := hg.below hb4
      go_wp2_with fail
      refine (rdivmod_any _ _ _ _ _ _ _ _ _ ha' hg (by omega) (by omega) (by rw [val_limbs]; exact HG0.out)).mono ?_
      rintro e w5 ⟨A3, n3, c3, A3', n3', c3', rfl, hq2, -, hb5⟩
      rw [val_limbs] at hq2
      replace hq1 := hq1.below hb5
      have hB5 := below_step hb5 (below_step hb4 (below_step hb3 (below_step hb2 hb1)))
      have q31 := q3.below hB5
      have hcg := q31.cells
      have hfg := q31.free
      have hz := q31.2
      have hn2 : n2 ≤ K := by
        rw [← hq1.len]
        exact length_limbs_le (Nat.lt_of_le_of_lt (Nat.div_le_self _ _) (Nat.lt_of_lt_of_le (val_lt_len h) (pow_le_pow_limb hn)))
      have hn3 : n3 ≤ K := by
        rw [← hq2.len]
        exact length_limbs_le (Nat.lt_of_le_of_lt (Nat.div_le_self _ _) (Nat.lt_of_lt_of_le (val_lt_len h') (pow_le_pow_limb hm)))
      have hcan : CanQ w5 A2 n2 c2 A3 n3 c3 (ratOf s (val ln) (val ld)) K := ⟨by rw [ratOf_abs H2.out]; exact hq1, by rw [ratOf_den H2.out]; exact hq2, hn2, hn3⟩
      have HQ := hide (ratOf_neg_flag (s := s) H1.out H2.out)
      go_wp2
      exact bodyPost_ret (v := .agg #[.bool s, .slice A2 n2 c2, .slice A3 n3 c3]) (by simp [results, Tryd.results36, go_sem, hcg]) rfl
        ⟨A2, n2, c2, A3, n3, c3, by rw [HQ.out], hcan.store3 q31.noNum, below3 (below_step hB5 hS) (Nat.le_refl _) _ _ _⟩
end Go.Proofs.YtfggecdgnidhfaaDoor
