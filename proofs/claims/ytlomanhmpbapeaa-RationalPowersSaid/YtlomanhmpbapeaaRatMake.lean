/- The walks of the reference's Trim, Neg, Sign, of Same and Nil, and of Ratio. The walks of Ratio, Of, the reference's Of and Int, and of the law's comparison. The walks of equal, of Is on both sides, and of the law's look at lengths; lists of rationals in memory. -/
import Derived.Test.YtlomanhmpbapeaaRatTrim
namespace Go.Proofs.Ytlomanhmpbapeaa
open Go.RowKit

theorem make_eqv {w : World} {s : Bool} {A B : Option Addr} {n c m d K : Nat} {l k : List Nat} {r : Rat} (h : Rd w A n c l) (h' : Rd w B m d k) (e : ratOf s (val l) (val k) = r) (hn : n ≤ K) (hm : m ≤ K) (hK1 : 1 ≤ K) (hK : K ≤ 1000) :
    Calls Try.prog 17 #[.bool s, .slice A n c, .slice B m d] w (RetQ r K w) := by
  subst e
  exact make_any s A n c l B m d k w h h' K hn hm hK1 hK

set_option maxHeartbeats 1000000 in
theorem rtrim_q (s : Bool) (A : Option Addr) (n c : Nat) (B : Option Addr) (m d : Nat) (q : Rat) (K : Nat) (w : World) (h : RawQ w s A n c B m d q K) (hK1 : 1 ≤ K) (hK : K ≤ 1000) :
    Calls Try.prog 25 #[.agg #[.bool s, .slice A n c, .slice B m d]] w (RetQ q K w) := by
  obtain ⟨W, hW, hS, q1, q3⟩ := box2 w s A n c B m d
  obtain ⟨⟨ln, ld, h1, h2, he⟩, hn, hm⟩ := h.below hS
  have HW := hide hW
  have HE := hide he
  clear hW he h
  go_enter Try.func25, Try.ntmps25
  go_wp2_with fail
  rw [← HW.out]
  refine (make_eqv h1 h2 HE.out hn hm hK1 hK).mono ?_
  rintro e w1 ⟨A', n', c', B', m', d', rfl, hcan, hb⟩
  have q31 := q3.below hb
  have hcg := q31.cells
  have hfg := q31.free
  go_wp2
  exact bodyPost_ret (v := .agg #[.bool (qneg q), .slice A' n' c', .slice B' m' d']) (by simp [results, Try.results25, go_sem, hcg]) rfl ⟨A', n', c', B', m', d', rfl, hcan.store3 q31.noNum, below3 (below_step hb hS) (by omega) _ _ _⟩

theorem num_len_zero {w : World} {A B : Option Addr} {n c m d K : Nat} {q : Rat} (h : CanQ w A n c B m d q K) : n = 0 ↔ q = 0 := by
  have := h.num.len
  rw [← Rat.num_eq_zero, ← Int.natAbs_eq_zero]
  constructor
  · intro h0
    rw [h0] at this
    exact limbs_eq_nil.1 (List.eq_nil_of_length_eq_zero this)
  · intro h0
    rw [h0, limbs_zero] at this
    simpa using this.symm

set_option maxHeartbeats 1000000 in
theorem rsign_q (s : Bool) (A : Option Addr) (n c : Nat) (B : Option Addr) (m d : Nat) (q : Rat) (K : Nat) (w : World) (h : RawQ w s A n c B m d q K) (hK1 : 1 ≤ K) (hK : K ≤ 1000) :
    Calls Try.prog 18 #[.agg #[.bool s, .slice A n c, .slice B m d]] w (Makes (.int .i64 (qsign q)) w) := by
  obtain ⟨W, hW, hS, q1⟩ := box1 w s A n c B m d
  have hr := h.below hS
  have hc1 := q1.cells
  have HW := hide hW
  clear hW h
  go_enter Try.func18, Try.ntmps18
  go_wp2_with fail
  rw [← HW.out]
  refine (rtrim_q s A n c B m d q K _ hr hK1 hK).mono ?_
  rintro e w1 ⟨A', n', c', B', m', d', rfl, hcan, hb⟩
  have q11 := q1.below hb
  have hcg := q11.cells
  have hfg := q11.free
  have hS1 := below_step hb hS
  clear hc1
  by_cases hq : q = 0
  · have hn0 := (num_len_zero hcan).2 hq
    subst hn0
    have HQ := hide (qsign_of_zero hq)
    clear hq
    go_wp2
    go_ret
    rw [HQ.out]
    exact ⟨rfl, below3 hS1 (Nat.le_refl _) _ _ _⟩
  · have hne : ((n' : Int) == 0) = false := by
      have := mt (num_len_zero hcan).1 hq
      simp; exact this
    have HQ : Hid (qsign q = if qneg q then -1 else 1) := by rw [Hid, qsign, if_neg hq]
    clear hq
    generalize qneg q = u at *
    cases u
    · go_wp2
      go_ret
      rw [HQ.out]
      exact ⟨rfl, below3 hS1 (Nat.le_refl _) _ _ _⟩
    · go_wp2
      go_ret
      rw [HQ.out]
      exact ⟨rfl, below3 hS1 (Nat.le_refl _) _ _ _⟩

set_option maxHeartbeats 1000000 in
theorem rneg_q (s : Bool) (A : Option Addr) (n c : Nat) (B : Option Addr) (m d : Nat) (q : Rat) (K : Nat) (w : World) (h : RawQ w s A n c B m d q K) (hK1 : 1 ≤ K) (hK : K ≤ 1000) :
    Calls Try.prog 30 #[.agg #[.bool s, .slice A n c, .slice B m d]] w (RetQ (-q) K w) := by
  obtain ⟨W, hW, hS, q1, q3⟩ := box2 w s A n c B m d
  have hr := h.below hS
  have hc1 := q1.cells
  have HW := hide hW
  clear hW h
  go_enter Try.func30, Try.ntmps30
  go_wp2_with fail
  rw [← HW.out]
  refine (rtrim_q s A n c B m d q K _ hr hK1 hK).mono ?_
  rintro e w1 ⟨A', n', c', B', m', d', rfl, hcan, hb⟩
  have q11 := q1.below hb
  have q31 := q3.below hb
  have hcg := q11.cells
  have hfg := q11.free
  have hS1 := below_step hb hS
  have HE : Hid (ratOf (!(qneg q)) (val (limbs q.num.natAbs)) (val (limbs q.den)) = -q) := by rw [Hid, val_limbs, val_limbs, ratOf_not, ratOf_self]
  clear hc1
  go_wp2_with fail
  have ho := only3 w1 w.heap.size (.bool (qneg q)) (.slice A' n' c') (.slice B' m' d')
  have hcan2 := hcan.far ho q11.noNum
  have q32 : BoxQ (((w1.setCell ⟨w.heap.size, 0, none⟩ (.bool (qneg q))).setCell ⟨w.heap.size, 1, none⟩ (.slice A' n' c')).setCell ⟨w.heap.size, 2, none⟩ (.slice B' m' d')) (w.heap.size + 1) false none 0 0 none 0 0 := BoxQ.only (g' := w.heap.size) q31 ho (by omega)
  have hS2 := below3 hS1 (Nat.le_refl _) (.bool (qneg q)) (.slice A' n' c') (.slice B' m' d')
  refine (make_eqv hcan2.num hcan2.den HE.out hcan.hn hcan.hm hK1 hK).mono ?_
  rintro e w2 ⟨A2, n2, c2, B2, m2, d2, rfl, hcan3, hb2⟩
  have q33 := q32.below hb2
  have hS3 := below_step hb2 hS2
  clear hcg hfg ho hcan2 hS2 q32
  have hcg := q33.cells
  have hfg := q33.free
  go_wp2
  exact bodyPost_ret (v := .agg #[.bool (qneg (-q)), .slice A2 n2 c2, .slice B2 m2 d2]) (by simp [results, Try.results30, go_sem, hcg]) rfl ⟨A2, n2, c2, B2, m2, d2, rfl, hcan3.store3 q33.noNum, below3 hS3 (by omega) _ _ _⟩

theorem boxes2 (w : World) (s : Bool) (A : Option Addr) (n c : Nat) (B : Option Addr) (m d : Nat) (t : Bool) (A2 : Option Addr) (n2 c2 : Nat) (B2 : Option Addr) (m2 d2 : Nat) :
    ∃ W, W = (w.alloc (.cells #[.bool s, .slice A n c, .slice B m d] 25)).alloc (.cells #[.bool t, .slice A2 n2 c2, .slice B2 m2 d2] 25) ∧ Below w.heap.size w W ∧ BoxQ W w.heap.size s A n c B m d ∧ BoxQ W (w.heap.size + 1) t A2 n2 c2 B2 m2 d2 := by
  refine ⟨_, rfl, ((Below.refl _ _).alloc (Nat.le_refl _) _).alloc (by simp) _, (BoxQ.new w _ _ _ _ _ _ _).below (below_alloc _ _), ?_⟩
  have := BoxQ.new (w.alloc (.cells #[.bool s, .slice A n c, .slice B m d] 25)) t A2 n2 c2 B2 m2 d2
  simpa using this

set_option maxHeartbeats 1000000 in
theorem rsameq_any (s : Bool) (A : Option Addr) (n c : Nat) (ln : List Nat) (B : Option Addr) (m d : Nat) (ld : List Nat) (t : Bool) (A2 : Option Addr) (n2 c2 : Nat) (kn : List Nat) (B2 : Option Addr) (m2 d2 : Nat) (kd : List Nat) (w : World)
    (h1 : Rd w A n c ln) (h2 : Rd w B m d ld) (h3 : Rd w A2 n2 c2 kn) (h4 : Rd w B2 m2 d2 kd) :
    Calls Try.prog 49 #[.agg #[.bool s, .slice A n c, .slice B m d], .agg #[.bool t, .slice A2 n2 c2, .slice B2 m2 d2]] w (Makes (.bool (decide (s = t) && decide (ln = kn) && decide (ld = kd))) w) := by
  obtain ⟨W, hW, hS, q1, q2⟩ := boxes2 w s A n c B m d t A2 n2 c2 B2 m2 d2
  have HW := hide hW
  replace h1 := h1.below hS
  replace h2 := h2.below hS
  replace h3 := h3.below hS
  replace h4 := h4.below hS
  have hc1 := q1.cells
  have hc2 := q2.cells
  clear hW
  by_cases hst : s = t
  · subst hst
    have hcall := rsame_any _ _ _ _ _ _ _ _ _ h1 h3
    by_cases hln : ln = kn
    · subst hln
      rw [decide_eq_true rfl] at hcall
      go_enter Try.func49, Try.ntmps49
      go_wp2_with fail
      rw [← HW.out]
      refine hcall.mono ?_
      rintro e w1 ⟨rfl, hb⟩
      have hcg1 := (q1.below hb).cells
      have hcg2 := (q2.below hb).cells
      clear hc1 hc2 hcall
      go_wp2_with fail
      refine (rsame_any _ _ _ _ _ _ _ _ _ (h2.below hb) (h4.below hb)).mono ?_
      rintro e w2 ⟨rfl, hb2⟩
      go_wp2
      go_ret
      exact ⟨by simp, below_step hb2 (below_step hb hS)⟩
    · rw [decide_eq_false hln] at hcall
      have HR : Hid ((decide (s = s) && decide (ln = kn) && decide (ld = kd)) = false) := by rw [Hid, decide_eq_false hln]; simp
      clear hln
      go_enter Try.func49, Try.ntmps49
      go_wp2_with fail
      rw [← HW.out]
      refine hcall.mono ?_
      rintro e w1 ⟨rfl, hb⟩
      clear hc1 hc2 hcall
      go_wp2
      go_ret
      rw [HR.out]
      exact ⟨rfl, below_step hb hS⟩
  · have hsb : (s == t) = false := by simpa using hst
    have HR : Hid ((decide (s = t) && decide (ln = kn) && decide (ld = kd)) = false) := by rw [Hid, decide_eq_false hst]; simp
    clear hst
    go_enter Try.func49, Try.ntmps49
    go_wp2_with fail
    go_ret
    rw [HR.out, ← HW.out]
    exact ⟨rfl, hS⟩

set_option maxHeartbeats 1000000 in
theorem lsameq_any (s : Bool) (A : Option Addr) (n c : Nat) (ln : List Nat) (B : Option Addr) (m d : Nat) (ld : List Nat) (t : Bool) (A2 : Option Addr) (n2 c2 : Nat) (kn : List Nat) (B2 : Option Addr) (m2 d2 : Nat) (kd : List Nat) (w : World)
    (h1 : Rd w A n c ln) (h2 : Rd w B m d ld) (h3 : Rd w A2 n2 c2 kn) (h4 : Rd w B2 m2 d2 kd) :
    Calls Try.prog 20 #[.agg #[.bool s, .slice A n c, .slice B m d], .agg #[.bool t, .slice A2 n2 c2, .slice B2 m2 d2]] w (Makes (.bool (decide (s = t) && decide (ln = kn) && decide (ld = kd))) w) := by
  obtain ⟨W, hW, hS, q1, q2⟩ := boxes2 w s A n c B m d t A2 n2 c2 B2 m2 d2
  have HW := hide hW
  replace h1 := h1.below hS
  replace h2 := h2.below hS
  replace h3 := h3.below hS
  replace h4 := h4.below hS
  have hc1 := q1.cells
  have hc2 := q2.cells
  clear hW
  go_enter Try.func20, Try.ntmps20
  go_wp2_with fail
  rw [← HW.out]
  refine (rsameq_any _ _ _ _ _ _ _ _ _ _ _ _ _ _ _ _ _ _ _ h1 h2 h3 h4).mono ?_
  rintro e w1 ⟨rfl, hb⟩
  generalize (decide (s = t) && decide (ln = kn) && decide (ld = kd)) = v at *
  clear hc1 hc2
  go_wp2
  go_ret
  exact ⟨rfl, below_step hb hS⟩

theorem can_eq {p q : Rat} : (decide (qneg p = qneg q) && decide (limbs p.num.natAbs = limbs q.num.natAbs) && decide (limbs p.den = limbs q.den)) = decide (p = q) := by
  by_cases h : p = q
  · subst h; simp
  · rw [decide_eq_false h]
    rw [Bool.eq_false_iff]
    intro h2
    simp only [Bool.and_eq_true, decide_eq_true_eq, limbs_inj] at h2
    obtain ⟨⟨h3, h4⟩, h5⟩ := h2
    apply h
    rw [← ratOf_self p, ← ratOf_self q, h3, h4, h5]
section
variable {w : World} {A B A2 B2 : Option Addr} {n c m d n2 c2 m2 d2 K L : Nat} {p q : Rat}
theorem same_q (h : CanQ w A n c B m d p K) (h' : CanQ w A2 n2 c2 B2 m2 d2 q L) :
    Calls Try.prog 20 #[.agg #[.bool (qneg p), .slice A n c, .slice B m d], .agg #[.bool (qneg q), .slice A2 n2 c2, .slice B2 m2 d2]] w (Makes (.bool (decide (p = q))) w) := by
  rw [← can_eq]
  exact lsameq_any _ _ _ _ _ _ _ _ _ _ _ _ _ _ _ _ _ _ _ h.num h.den h'.num h'.den
theorem same_q_yes (h : CanQ w A n c B m d p K) (h' : CanQ w A2 n2 c2 B2 m2 d2 q L) (e : p = q) :
    Calls Try.prog 20 #[.agg #[.bool (qneg p), .slice A n c, .slice B m d], .agg #[.bool (qneg q), .slice A2 n2 c2, .slice B2 m2 d2]] w (Makes (.bool true) w) := by
  have := same_q h h'
  rwa [decide_eq_true e] at this
end

set_option maxHeartbeats 400000 in
theorem nil_nil (w : World) : Calls Try.prog 19 #[.agg #[.bool false, .slice none 0 0, .slice none 0 0]] w (Makes (.bool true) w) := by
  go_enter Try.func19, Try.ntmps19
  go_wp2
  go_ret
  exact ⟨rfl, below_alloc w _⟩

/-- A rational and an error. -/
def RetQE (q : Rat) (K : Nat) (w : World) (x : Ending) (w' : World) : Prop :=
  ∃ A n c B m d, x = .returned (.tuple #[.agg #[.bool (qneg q), .slice A n c, .slice B m d], .int .i64 0]) ∧ CanQ w' A n c B m d q K ∧ Below w.heap.size w w'
/-- No rational, and an error. -/
def ErrQ (e : Int) (w : World) (x : Ending) (w' : World) : Prop :=
  x = .returned (.tuple #[.agg #[.bool false, .slice none 0 0, .slice none 0 0], .int .i64 e]) ∧ Below w.heap.size w w'

set_option maxHeartbeats 1000000 in
theorem ratio_zero (A : Option Addr) (n c : Nat) (B : Option Addr) (m d : Nat) (ld : List Nat) (w : World) (h' : Rd w B m d ld) (hm : m ≤ 10000) (h0 : val ld = 0) :
    Calls Try.prog 16 #[.slice A n c, .slice B m d] w (ErrQ 7 w) := by
  obtain ⟨W, hW, hS, q3⟩ := box1 w false none 0 0 none 0 0
  have HW := hide hW
  have hb2 := bits_any _ _ _ _ _ (h'.below hS) (by omega)
  rw [h0, nbits_zero] at hb2
  have hcg := q3.cells
  have hfg := q3.free
  clear hW
  go_enter Try.func16, Try.ntmps16
  go_wp2_with fail
  rw [← HW.out]
  refine hb2.mono ?_
  rintro e w1 ⟨rfl, rfl⟩
  clear hb2
  go_wp2
  exact bodyPost_ret (v := .tuple #[.agg #[.bool false, .slice none 0 0, .slice none 0 0], .int .i64 7]) (by simp [results, Try.results16, go_sem, hcg]) rfl ⟨rfl, below3 hS (Nat.le_refl _) _ _ _⟩

set_option maxHeartbeats 1000000 in
theorem ratio_ok (A : Option Addr) (n c : Nat) (ln : List Nat) (B : Option Addr) (m d : Nat) (ld : List Nat) (w : World) (h : Rd w A n c ln) (h' : Rd w B m d ld) (K : Nat) (hn : n ≤ K) (hm : m ≤ K) (hK1 : 1 ≤ K) (hK : K ≤ 10000) (h0 : val ld ≠ 0) :
    Calls Try.prog 16 #[.slice A n c, .slice B m d] w (RetQE (ratOf false (val ln) (val ld)) K w) := by
  obtain ⟨W, hW, hS, q3⟩ := box1 w false none 0 0 none 0 0
  have HW := hide hW
  have hb2 := bits_any _ _ _ _ _ (h'.below hS) (by omega)
  have hy1 : nbits (val ld) ≠ 0 := mt nbits_eq_zero.1 h0
  obtain ⟨y, hy⟩ : ∃ y, y = nbits (val ld) := ⟨_, rfl⟩
  rw [← hy] at hb2 hy1
  have hye : ((y : Int) == 0) = false := by simp; exact hy1
  clear hW hy h0 hy1
  go_enter Try.func16, Try.ntmps16
  go_wp2_with fail
  rw [← HW.out]
  refine hb2.mono ?_
  rintro e w1 ⟨rfl, rfl⟩
  clear hb2
  go_wp2_with fail
  refine (canonical_any false A n c ln B m d ld _ (h.below hS) (h'.below hS) K hn hm hK1 hK).mono ?_
  rintro e w2 ⟨A', n', c', B', m', d', rfl, hcan, hb⟩
  have q31 := q3.below hb
  have hcg := q31.cells
  have hfg := q31.free
  generalize ratOf false (val ln) (val ld) = q at *
  go_wp2
  exact bodyPost_ret (v := .tuple #[.agg #[.bool (qneg q), .slice A' n' c', .slice B' m' d'], .int .i64 0]) (by simp [results, Try.results16, go_sem, hcg]) rfl ⟨A', n', c', B', m', d', rfl, hcan.store3 q31.noNum, below3 (below_step hb hS) (Nat.le_refl _) _ _ _⟩

theorem limbs_of_len {l : List Nat} {x : Nat} (hl : Lims l) (hn : l.length = (limbs x).length) (hv : val l = x) : l = limbs x := by
  subst hv
  have h1 := take_keep hl
  have h2 := congrArg List.length h1
  rw [List.length_take] at h2
  have h3 := keep_le l l.length
  rw [← h1, List.take_of_length_le]
  omega

set_option maxHeartbeats 400000 in
theorem equal_any (A : Option Addr) (n c : Nat) (l : List Nat) (B : Option Addr) (m d x : Nat) (w : World) (h : Rd w A n c l) (h' : Rd w B m d (limbs x)) :
    Calls Try.prog 63 #[.slice A n c, .slice B m d] w (Makes (.bool (decide (l = limbs x))) w) := by
  by_cases hn : n = m
  · subst hn
    have hcall := cmp_any _ _ _ _ _ _ _ _ _ h h'
    rw [val_limbs] at hcall
    by_cases hv : val l = x
    · have HR : Hid (decide (l = limbs x) = true) := decide_eq_true (limbs_of_len h.lims (by rw [h.len, h'.len]) hv)
      rw [cmpV_eq hv] at hcall
      clear hv
      go_enter Try.func63, Try.ntmps63
      go_wp2_with fail
      refine hcall.mono ?_
      rintro e w1 ⟨rfl, hb⟩
      clear hcall
      go_wp2
      go_ret
      rw [HR.out]
      exact ⟨rfl, hb⟩
    · have HR : Hid (decide (l = limbs x) = false) := decide_eq_false (fun h9 => hv (by rw [h9, val_limbs]))
      have hne : (cmpV (val l) x == 0) = false := by
        unfold cmpV
        split
        · rfl
        · split
          · rfl
          · omega
      generalize cmpV (val l) x = cv at *
      clear hv
      go_enter Try.func63, Try.ntmps63
      go_wp2_with fail
      refine hcall.mono ?_
      rintro e w1 ⟨rfl, hb⟩
      clear hcall
      go_wp2
      go_ret
      rw [HR.out]
      exact ⟨rfl, hb⟩
  · have HR : Hid (decide (l = limbs x) = false) := decide_eq_false (fun h9 => hn (by rw [← h.len, ← h'.len, h9]))
    have hne : ((n : Int) == (m : Int)) = false := by simp; omega
    clear hn
    go_enter Try.func63, Try.ntmps63
    go_wp2
    go_ret
    rw [HR.out]
    exact ⟨rfl, Below.refl _ _⟩

/-- Is the datum the canonical one of its value? -/
def isV (s : Bool) (ln ld : List Nat) (q : Rat) : Bool := decide (s = qneg q) && decide (ln = limbs q.num.natAbs) && decide (ld = limbs q.den)

set_option maxHeartbeats 1000000 in
theorem is_q (s : Bool) (A : Option Addr) (n c : Nat) (ln : List Nat) (B : Option Addr) (m d : Nat) (ld : List Nat) (q : Rat) (K : Nat) (w : World) (h : Rd w A n c ln) (h' : Rd w B m d ld) (he : ratOf s (val ln) (val ld) = q) (hn : n ≤ K) (hm : m ≤ K) (hK1 : 1 ≤ K) (hK : K ≤ 10000) :
    Calls Try.prog 26 #[.agg #[.bool s, .slice A n c, .slice B m d]] w (Makes (.bool (isV s ln ld q)) w) := by
  obtain ⟨W, hW, hS, q1⟩ := box1 w s A n c B m d
  have hr : RawQ w s A n c B m d q K := ⟨⟨ln, ld, h, h', he⟩, hn, hm⟩
  replace hr := hr.below hS
  have h1 := h.below hS
  have h2 := h'.below hS
  have hc1 := q1.cells
  have HW := hide hW
  clear hW he
  go_enter Try.func26, Try.ntmps26
  go_wp2_with fail
  rw [← HW.out]
  refine (trim_q s A n c B m d q K _ hr hK1 hK).mono ?_
  rintro e w1 ⟨A', n', c', B', m', d', rfl, hcan, hb⟩
  obtain ⟨W2, hW2, hS2, q3⟩ := box1 w1 (qneg q) A' n' c' B' m' d'
  have HW2 := hide hW2
  have hB := below_step hS2 hb
  have q12 := (q1.below hb).below hS2
  have hcan2 := hcan.below hS2
  replace h1 := h1.below hB
  replace h2 := h2.below hB
  have hz := (q1.below hb).2
  clear hW2 hc1 hr
  have hc1 := (q1.below hb).cells
  generalize hu : qneg q = u at *
  by_cases hs : s = u
  · subst hs
    have hcall := equal_any _ _ _ _ _ _ _ _ _ h1 hcan2.num
    by_cases hl : ln = limbs q.num.natAbs
    · rw [decide_eq_true hl] at hcall
      have HR : Hid (isV s ln ld q = decide (ld = limbs q.den)) := by rw [Hid, isV, hu, decide_eq_true rfl, decide_eq_true hl]; rfl
      clear hl hu
      go_wp2_with fail
      rw [← HW2.out]
      refine hcall.mono ?_
      rintro e w2 ⟨rfl, hb2⟩
      clear hcall hc1
      have hc1 := (q12.below hb2).cells
      have hc3 := (q3.below hb2).cells
      go_wp2_with fail
      refine (equal_any _ _ _ _ _ _ _ _ _ (h2.below hb2) (hcan2.den.below hb2)).mono ?_
      rintro e w3 ⟨rfl, hb3⟩
      go_wp2
      go_ret
      rw [HR.out]
      exact ⟨rfl, below_step hb3 (below_step hb2 (below_step hB hS))⟩
    · rw [decide_eq_false hl] at hcall
      have HR : Hid (isV s ln ld q = false) := by rw [Hid, isV, decide_eq_false hl]; simp
      clear hl hu
      go_wp2_with fail
      rw [← HW2.out]
      refine hcall.mono ?_
      rintro e w2 ⟨rfl, hb2⟩
      clear hcall hc1
      go_wp2
      go_ret
      rw [HR.out]
      exact ⟨rfl, below_step hb2 (below_step hB hS)⟩
  · have hsb : (s == u) = false := by simpa using hs
    have HR : Hid (isV s ln ld q = false) := by rw [Hid, isV, hu, decide_eq_false hs]; rfl
    clear hs hu
    go_wp2_with fail
    rw [← HW2.out]
    go_ret
    rw [HR.out]
    exact ⟨rfl, below_step hB hS⟩
end Go.Proofs.Ytlomanhmpbapeaa
