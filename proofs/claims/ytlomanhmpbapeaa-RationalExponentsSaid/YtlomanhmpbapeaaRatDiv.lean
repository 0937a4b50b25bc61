/- The walk of rational.Div. -/
import Derived.Test.YtlomanhmpbapeaaRatList
import Derived.Test.YtlomanhmpbapeaaRatSub
namespace Go.Proofs.Ytlomanhmpbapeaa
open Go.RowKit

theorem RawQ.inv {w : World} {s : Bool} {A B : Option Addr} {n c m d K : Nat} {q : Rat} (h : RawQ w s A n c B m d q K) : RawQ w s B m d A n c q⁻¹ K := by
  obtain ⟨⟨ln, ld, h1, h2, h3⟩, hn, hm⟩ := h
  exact ⟨⟨ld, ln, h2, h1, by rw [← h3, ratOf_inv]⟩, hm, hn⟩

set_option maxHeartbeats 2000000 in
theorem qdiv_zero (s : Bool) (A : Option Addr) (n c : Nat) (B : Option Addr) (m d : Nat) (t : Bool) (A2 : Option Addr) (n2 c2 : Nat) (B2 : Option Addr) (m2 d2 : Nat) (q : Rat) (L : Nat) (w : World)
    (h' : RawQ w t A2 n2 c2 B2 m2 d2 q L) (hL : L ≤ 400) (h0 : q = 0) :
    Calls Try.prog 31 #[.agg #[.bool s, .slice A n c, .slice B m d], .agg #[.bool t, .slice A2 n2 c2, .slice B2 m2 d2]] w (ErrQ 7 w) := by
  obtain ⟨W, hW, hS, q1, q2, q3⟩ := boxes3 w s A n c B m d t A2 n2 c2 B2 m2 d2
  have hcall := sign_q _ _ _ _ _ _ _ _ L _ (h'.below hS) (by omega)
  rw [qsign_of_zero h0] at hcall
  have HW := hide hW
  have hc2 := q2.cells
  clear hW h' q1 q2 h0
  go_enter Try.func31, Try.ntmps31
  go_wp2_with fail
  rw [← HW.out]
  refine hcall.mono ?_
  rintro e w1 ⟨rfl, hb1⟩
  have hcg := (q3.below hb1).cells
  have hfg := (q3.below hb1).free
  clear hcall hc2
  go_wp2
  exact bodyPost_ret (v := .tuple #[.agg #[.bool false, .slice none 0 0, .slice none 0 0], .int .i64 7]) (by simp [results, Try.results31, go_sem, hcg]) rfl ⟨rfl, below3 (below_step hb1 hS) (by omega) _ _ _⟩

set_option maxHeartbeats 2000000 in
theorem qdiv_ok (s : Bool) (A : Option Addr) (n c : Nat) (B : Option Addr) (m d : Nat) (p : Rat) (K : Nat) (t : Bool) (A2 : Option Addr) (n2 c2 : Nat) (B2 : Option Addr) (m2 d2 : Nat) (q : Rat) (L : Nat) (w : World)
    (h : RawQ w s A n c B m d p K) (h' : RawQ w t A2 n2 c2 B2 m2 d2 q L) (hK1 : 1 ≤ K + L) (hK : K + L ≤ 400) (h0 : q ≠ 0) :
    Calls Try.prog 31 #[.agg #[.bool s, .slice A n c, .slice B m d], .agg #[.bool t, .slice A2 n2 c2, .slice B2 m2 d2]] w (RetQE (p / q) (2 * (K + L) + 1) w) := by
  obtain ⟨W, hW, hS, q1, q2, q3⟩ := boxes3 w s A n c B m d t A2 n2 c2 B2 m2 d2
  have hcall := sign_q _ _ _ _ _ _ _ _ L _ (h'.below hS) (by omega)
  have hr1 := h.below hS
  have hr2 := h'.below hS
  have hx : (qsign q == 0) = false := by
    have := mt qsign_zero.1 h0
    simpa using this
  have HD := hide (Rat.div_def p q)
  have HW := hide hW
  have hc2 := q2.cells
  obtain ⟨x, hxe⟩ : ∃ x, x = qsign q := ⟨_, rfl⟩
  rw [← hxe] at hx hcall
  clear hW h h' h0 hxe
  go_enter Try.func31, Try.ntmps31
  go_wp2_with fail
  rw [← HW.out]
  refine hcall.mono ?_
  rintro e w1 ⟨rfl, hb1⟩
  have Q3 := hide (q3.below hb1)
  have q1b := q1.below hb1
  have q2b := q2.below hb1
  clear hcall hc2 q1 q2 q3
  have hc1 := q1b.cells
  have hc2 := q2b.cells
  go_wp2_with fail
  refine (qmul_pair (ql_two (M := K + L) (by simp) (hr1.below hb1) (hr2.below hb1).inv (by omega) (by omega)) hK1 (by omega)).mono ?_
  rw [← HD.out]
  rintro e w2 ⟨A', n', c', B', m', d', rfl, hcan, hb2⟩
  have hb2' := below_step hb2 (below_step (below_alloc _ _) (below_step hb1 hS))
  have q32 := (Q3.out.upAlloc (o := .cells #[.bool s, .slice A n c, .slice B m d, .bool t, .slice B2 m2 d2, .slice A2 n2 c2] 25)).below hb2
  clear hc1 hc2
  have hcg := q32.cells
  have hfg := q32.free
  go_wp2
  exact bodyPost_ret (v := .tuple #[.agg #[.bool (qneg (p / q)), .slice A' n' c', .slice B' m' d'], .int .i64 0]) (by simp [results, Try.results31, go_sem, hcg]) rfl ⟨A', n', c', B', m', d', rfl, hcan.store3 q32.noNum, below3 hb2' (by omega) _ _ _⟩
end Go.Proofs.Ytlomanhmpbapeaa
