/- The walks of the reference's Trim, Neg, Sign, of Same and Nil, and of Ratio. -/
import Derived.Test.YtlomanhmpbapeaaRatTrim
namespace Go.Proofs.Ytlomanhmpbapeaa
open Go.RowKit

theorem make_eqv {w : World} {s : Bool} {A B : Option Addr} {n c m d K : Nat} {l k : List Nat} {r : Rat} (h : Rd w A n c l) (h' : Rd w B m d k) (e : ratOf s (val l) (val k) = r) (hn : n ≤ K) (hm : m ≤ K) (hK1 : 1 ≤ K) (hK : K ≤ 1000) :
    Calls Try.prog 17 #[.bool s, .slice A n c, .slice B m d] w (RetQ r K w) := by
  subst e
  exact make_any s A n c l B m d k w h h' K hn hm hK1 hK

set_option maxHeartbeats 1000000 in
theorem rtrim_q (s : Bool) (A : Option Addr) (n c : Nat) (B : Option Addr) (m d : Nat) (q : Rat) (K : Nat) (w : World) (h : RawQ w s A n c B m d q K) (hK1 : 1 ≤ K) (hK : K ≤ 1000) :
    Calls Try.prog 25 #[.agg #[.bool s, .slice A n c, .slice B m d]] w (RetQ q K w) := by
  obtain ⟨W, hW, hS, q1, q3⟩ := box2 w s A n c B m d
  obtain ⟨⟨ln, ld, h1, h2, he⟩, hn, hm⟩ := h.below hS
  have HW := hide hW
  have HE := hide he
  clear hW he h
  go_enter Try.func25, Try.ntmps25
  go_wp2_with fail
  rw [← HW.out]
  refine (make_eqv h1 h2 HE.out hn hm hK1 hK).mono ?_
  rintro e w1 ⟨A', n', c', B', m', d', rfl, hcan, hb⟩
  have q31 := q3.below hb
  have hcg := q31.cells
  have hfg := q31.free
  go_wp2
  exact bodyPost_ret (v := .agg #[.bool (qneg q), .slice A' n' c', .slice B' m' d']) (by simp [results, Try.results25, go_sem, hcg]) rfl ⟨A', n', c', B', m', d', rfl, hcan.store3 q31.noNum, below3 (below_step hb hS) (by omega) _ _ _⟩

theorem num_len_zero {w : World} {A B : Option Addr} {n c m d K : Nat} {q : Rat} (h : CanQ w A n c B m d q K) : n = 0 ↔ q = 0 := by
  have := h.num.len
  rw [← Rat.num_eq_zero, ← Int.natAbs_eq_zero]
  constructor
  · intro h0
    rw [h0] at this
    exact limbs_eq_nil.1 (List.eq_nil_of_length_eq_zero this)
  · intro h0
    rw [h0, limbs_zero] at this
    simpa using this.symm

set_option maxHeartbeats 1000000 in
theorem rsign_q (s : Bool) (A : Option Addr) (n c : Nat) (B : Option Addr) (m d : Nat) (q : Rat) (K : Nat) (w : World) (h : RawQ w s A n c B m d q K) (hK1 : 1 ≤ K) (hK : K ≤ 1000) :
    Calls Try.prog 18 #[.agg #[.bool s, .slice A n c, .slice B m d]] w (Makes (.int .i64 (qsign q)) w) := by
  obtain ⟨W, hW, hS, q1⟩ := box1 w s A n c B m d
  have hr := h.below hS
  have hc1 := q1.cells
  have HW := hide hW
  clear hW h
  go_enter Try.func18, Try.ntmps18
  go_wp2_with fail
  rw [← HW.out]
  refine (rtrim_q s A n c B m d q K _ hr hK1 hK).mono ?_
  rintro e w1 ⟨A', n', c', B', m', d', rfl, hcan, hb⟩
  have q11 := q1.below hb
  have hcg := q11.cells
  have hfg := q11.free
  have hS1 := below_step hb hS
  clear hc1
  by_cases hq : q = 0
  · have hn0 := (num_len_zero hcan).2 hq
    subst hn0
    have HQ := hide (qsign_of_zero hq)
    clear hq
    go_wp2
    go_ret
    rw [HQ.out]
    exact ⟨rfl, below3 hS1 (Nat.le_refl _) _ _ _⟩
  · have hne : ((n' : Int) == 0) = false := by
      have := mt (num_len_zero hcan).1 hq
      simp; exact this
    have HQ : Hid (qsign q = if qneg q then -1 else 1) := by rw [Hid, qsign, if_neg hq]
    clear hq
    generalize qneg q = u at *
    cases u
    · go_wp2
      go_ret
      rw [HQ.out]
      exact ⟨rfl, below3 hS1 (Nat.le_refl _) _ _ _⟩
    · go_wp2
      go_ret
      rw [HQ.out]
      exact ⟨rfl, below3 hS1 (Nat.le_refl _) _ _ _⟩

set_option maxHeartbeats 1000000 in
theorem rneg_q (s : Bool) (A : Option Addr) (n c : Nat) (B : Option Addr) (m d : Nat) (q : Rat) (K : Nat) (w : World) (h : RawQ w s A n c B m d q K) (hK1 : 1 ≤ K) (hK : K ≤ 1000) :
    Calls Try.prog 30 #[.agg #[.bool s, .slice A n c, .slice B m d]] w (RetQ (-q) K w) := by
  obtain ⟨W, hW, hS, q1, q3⟩ := box2 w s A n c B m d
  have hr := h.below hS
  have hc1 := q1.cells
  have HW := hide hW
  clear hW h
  go_enter Try.func30, Try.ntmps30
  go_wp2_with fail
  rw [← HW.out]
  refine (rtrim_q s A n c B m d q K _ hr hK1 hK).mono ?_
  rintro e w1 ⟨A', n', c', B', m', d', rfl, hcan, hb⟩
  have q11 := q1.below hb
  have q31 := q3.below hb
  have hcg := q11.cells
  have hfg := q11.free
  have hS1 := below_step hb hS
  have HE : Hid (ratOf (!(qneg q)) (val (limbs q.num.natAbs)) (val (limbs q.den)) = -q) := by rw [Hid, val_limbs, val_limbs, ratOf_not, ratOf_self]
  clear hc1
  go_wp2_with fail
  have ho := only3 w1 w.heap.size (.bool (qneg q)) (.slice A' n' c') (.slice B' m' d')
  have hcan2 := hcan.far ho q11.noNum
  have q32 : BoxQ (((w1.setCell ⟨w.heap.size, 0, none⟩ (.bool (qneg q))).setCell ⟨w.heap.size, 1, none⟩ (.slice A' n' c')).setCell ⟨w.heap.size, 2, none⟩ (.slice B' m' d')) (w.heap.size + 1) false none 0 0 none 0 0 := BoxQ.only (g' := w.heap.size) q31 ho (by omega)
  have hS2 := below3 hS1 (Nat.le_refl _) (.bool (qneg q)) (.slice A' n' c') (.slice B' m' d')
  refine (make_eqv hcan2.num hcan2.den HE.out hcan.hn hcan.hm hK1 hK).mono ?_
  rintro e w2 ⟨A2, n2, c2, B2, m2, d2, rfl, hcan3, hb2⟩
  have q33 := q32.below hb2
  have hS3 := below_step hb2 hS2
  clear hcg hfg ho hcan2 hS2 q32
  have hcg := q33.cells
  have hfg := q33.free
  go_wp2
  exact bodyPost_ret (v := .agg #[.bool (qneg (-q)), .slice A2 n2 c2, .slice B2 m2 d2]) (by simp [results, Try.results30, go_sem, hcg]) rfl ⟨A2, n2, c2, B2, m2, d2, rfl, hcan3.store3 q33.noNum, below3 hS3 (by omega) _ _ _⟩

theorem boxes2 (w : World) (s : Bool) (A : Option Addr) (n c : Nat) (B : Option Addr) (m d : Nat) (t : Bool) (A2 : Option Addr) (n2 c2 : Nat) (B2 : Option Addr) (m2 d2 : Nat) :
    ∃ W, W = (w.alloc (.cells #[.bool s, .slice A n c, .slice B m d] 25)).alloc (.cells #[.bool t, .slice A2 n2 c2, .slice B2 m2 d2] 25) ∧ Below w.heap.size w W ∧ BoxQ W w.heap.size s A n c B m d ∧ BoxQ W (w.heap.size + 1) t A2 n2 c2 B2 m2 d2 := by
  refine ⟨_, rfl, ((Below.refl _ _).alloc (Nat.le_refl _) _).alloc (by simp) _, (BoxQ.new w _ _ _ _ _ _ _).below (below_alloc _ _), ?_⟩
  have := BoxQ.new (w.alloc (.cells #[.bool s, .slice A n c, .slice B m d] 25)) t A2 n2 c2 B2 m2 d2
  simpa using this

set_option maxHeartbeats 1000000 in
theorem rsameq_any (s : Bool) (A : Option Addr) (n c : Nat) (ln : List Nat) (B : Option Addr) (m d : Nat) (ld : List Nat) (t : Bool) (A2 : Option Addr) (n2 c2 : Nat) (kn : List Nat) (B2 : Option Addr) (m2 d2 : Nat) (kd : List Nat) (w : World)
    (h1 : Rd w A n c ln) (h2 : Rd w B m d ld) (h3 : Rd w A2 n2 c2 kn) (h4 : Rd w B2 m2 d2 kd) :
    Calls Try.prog 49 #[.agg #[.bool s, .slice A n c, .slice B m d], .agg #[.bool t, .slice A2 n2 c2, .slice B2 m2 d2]] w (Makes (.bool (decide (s = t) && decide (ln = kn) && decide (ld = kd))) w) := by
  obtain ⟨W, hW, hS, q1, q2⟩ := boxes2 w s A n c B m d t A2 n2 c2 B2 m2 d2
  have HW := hide hW
  replace h1 := h1.below hS
  replace h2 := h2.below hS
  replace h3 := h3.below hS
  replace h4 := h4.below hS
  have hc1 := q1.cells
  have hc2 := q2.cells
  clear hW
  by_cases hst : s = t
  · subst hst
    have hcall := rsame_any _ _ _ _ _ _ _ _ _ h1 h3
    by_cases hln : ln = kn
    · subst hln
      rw [decide_eq_true rfl] at hcall
      go_enter Try.func49, Try.ntmps49
      go_wp2_with fail
      rw [← HW.out]
      refine hcall.mono ?_
      rintro e w1 ⟨rfl, hb⟩
      have hcg1 := (q1.below hb).cells
      have hcg2 := (q2.below hb).cells
      clear hc1 hc2 hcall
      go_wp2_with fail
      refine (rsame_any _ _ _ _ _ _ _ _ _ (h2.below hb) (h4.below hb)).mono ?_
      rintro e w2 ⟨rfl, hb2⟩
      go_wp2
      go_ret
      exact ⟨by simp, below_step hb2 (below_step hb hS)⟩
    · rw [decide_eq_false hln] at hcall
      have HR : Hid ((decide (s = s) && decide (ln = kn) && decide (ld = kd)) = false) := by rw [Hid, decide_eq_false hln]; simp
      clear hln
      go_enter Try.func49, Try.ntmps49
      go_wp2_with fail
      rw [← HW.out]
      refine hcall.mono ?_
      rintro e w1 ⟨rfl, hb⟩
      clear hc1 hc2 hcall
      go_wp2
      go_ret
      rw [HR.out]
      exact ⟨rfl, below_step hb hS⟩
  · have hsb : (s == t) = false := by simpa using hst
    have HR : Hid ((decide (s = t) && decide (ln = kn) && decide (ld = kd)) = false) := by rw [Hid, decide_eq_false hst]; simp
    clear hst
    go_enter Try.func49, Try.ntmps49
    go_wp2_with fail
    go_ret
    rw [HR.out, ← HW.out]
    exact ⟨rfl, hS⟩
end Go.Proofs.Ytlomanhmpbapeaa
