/- The walk of the law RationalPowers. -/
import Derived.Test.YtlomanhmpbapeaaRatPow3
namespace Go.Proofs.Ytlomanhmpbapeaa
open Go.RowKit

set_option maxHeartbeats 8000000 in
set_option maxRecDepth 10000 in
theorem law_RationalPowers (w : World) (s1 : Bool) (A1 : Option Addr) (n1 c1 : Nat) (x1 : List Nat) (B1 : Option Addr) (m1 d1 : Nat) (y1 : List Nat) (g1 : Rd w A1 n1 c1 x1) (sA1 : n1 ≤ 35184372088832) (g1' : Rd w B1 m1 d1 y1) (sB1 : m1 ≤ 35184372088832) (z : Int) (bz : -9223372036854775808 ≤ z ∧ z ≤ 9223372036854775807) :
    Calls Try.prog 7 #[.agg #[.bool s1, .slice A1 n1 c1, .slice B1 m1 d1], .int .i64 z] w (Makes (.bool true) w) := by
  obtain ⟨z1, z2⟩ := bz
  obtain ⟨W0, hW, hS, q1⟩ := box1 w s1 A1 n1 c1 B1 m1 d1
  have e1 := g1.below hS
  have e1' := g1'.below hS
  have hlist := rawl_one (s := s1) (g := W0.heap.size) rfl e1 e1'
  have hcall := longq_any 6 _ 1 1 _ _ hlist (by
    intro t ht
    simp only [List.mem_singleton] at ht
    subst ht
    exact ⟨by rw [e1.len]; exact sA1, by rw [e1'.len]; exact sB1⟩) (by omega)
  have HW := hide hW
  have HCALL := hide hcall
  have hc1 := q1.cells
  have Q1 := hide q1
  have hF0 := below_alloc W0 (.cells #[.bool s1, .slice A1 n1 c1, .slice B1 m1 d1] 25)
  clear hW hcall hlist q1
  go_enter Try.func7, Try.ntmps7
  go_upto_region 1 with (fail)
  rw [← HW.out]
  go_cut [34] from 9 to 34 (fun v34 wx => ∃ b : Bool, v34 = .bool b ∧ (b = false → n1 + m1 ≤ 6 ∧ lookP (n1 + m1) z) ∧ From W0 wx)
  case first =>
    go_wp2_with fail
    refine HCALL.out.mono ?_
    rintro e w1 ⟨rfl, hb1⟩
    have hF1 : From W0 w1 := From.step hF0 hb1
    cases hlong : anyLongQ 6 [(s1, x1, y1)] with
    | true =>
      clear hlong hc1
      go_wp2
      go_meet
      case rel => exact ⟨true, rfl, (fun h => by cases h), hF1⟩
    | false =>
      have hnm : n1 + m1 ≤ 6 := by
        have := anyLongQ_false hlong (s1, x1, y1) (by simp)
        rw [e1.len, e1'.len] at this
        exact this
      clear hlong hc1
      have hc1 := (Q1.out.later hF1).cells
      have hS0 : (0 : Int) ≤ (n1 : Int) + (m1 : Int) := by omega
      have hS6 : (n1 : Int) + (m1 : Int) ≤ 6 := by omega
      by_cases hmin : z = -9223372036854775808
      · have HL : Hid (lookP (n1 + m1) z) := .inl (by omega)
        have hneg : IntKind.i64.wrap (-z) = z := by rw [hmin]; decide
        have hle : z ≤ 140000 := by omega
        have hp : IntKind.i64.wrap (32 * ((n1 : Int) + (m1 : Int)) * z) = 0 := by
          rw [hmin, IntKind.wrap_i64]
          omega
        clear hmin z1 z2
        go_wp2
        go_meet
        case rel => exact ⟨false, rfl, fun _ => ⟨hnm, HL.out⟩, hF1⟩
      obtain ⟨k, hk⟩ : ∃ k, k = z.natAbs := ⟨_, rfl⟩
      have hneg : IntKind.i64.wrap (-z) = -z := IntWalk.i64_in _ (by omega)
      have hmx : max z (-z) = (k : Int) := by omega
      by_cases hbig : 140000 < k
      · have HL : Hid (lookP (n1 + m1) z) := .inl (by omega)
        have hle : ¬ (k : Int) ≤ 140000 := by omega
        have hle' : decide ((k : Int) ≤ 140000) = false := decide_eq_false hle
        clear hmin hbig hk z1 z2
        go_wp2
        go_meet
        case rel => exact ⟨false, rfl, fun _ => ⟨hnm, HL.out⟩, hF1⟩
      · have hle : (k : Int) ≤ 140000 := by omega
        obtain ⟨PP, hPP⟩ : ∃ PP, PP = 32 * (n1 + m1) * k := ⟨_, rfl⟩
        have hPb : PP ≤ 32 * 6 * 140000 := by
          rw [hPP]
          exact Nat.mul_le_mul (by omega) (by omega)
        have hPi : 32 * ((n1 : Int) + (m1 : Int)) * (k : Int) = (PP : Int) := by rw [hPP]; push_cast; rfl
        have hPw : IntKind.i64.wrap (PP : Int) = (PP : Int) := IntWalk.i64_in _ (by omega)
        by_cases hgt : 4000 < PP
        · have hg1 : (4000 : Int) < (PP : Int) := by omega
          clear hmin hbig hk z1 z2 hgt hPP
          go_wp2
          go_meet
          case rel => exact ⟨true, rfl, (fun h => by cases h), hF1⟩
        · have HL : Hid (lookP (n1 + m1) z) := .inr (by rw [← hk, ← hPP]; omega)
          have hg1 : ¬ (4000 : Int) < (PP : Int) := by omega
          clear hmin hbig hk z1 z2 hgt hPP
          go_wp2
          go_meet
          case rel => exact ⟨false, bool_val (decide_eq_false (by omega)), fun _ => ⟨hnm, HL.out⟩, hF1⟩
  case rest =>
    obtain ⟨b, rfl, hcond, hF⟩ := hcut
    have hBw := below_step hF.out hS
    cases b with
    | true =>
      clear hcond
      go_wp2
      go_ret
      exact ⟨rfl, hBw⟩
    | false =>
      obtain ⟨hnm, hlook⟩ := hcond rfl
      have k1 := e1.below hF.out
      have k1' := e1'.below hF.out
      have Q := hide (Q1.out.later hF)
      obtain ⟨W, hW⟩ : ∃ W : World, W = wc := ⟨_, rfl⟩
      subst hW
      obtain ⟨a, hq1⟩ : ∃ q, q = ratOf s1 (val x1) (val y1) := ⟨_, rfl⟩
      have r1 : RawQ W s1 A1 n1 c1 B1 m1 d1 a 6 := ⟨⟨x1, y1, k1, k1', hq1.symm⟩, by omega, by omega⟩
      clear hcond hq1 k1 k1' hnm e1 e1' hc1 HCALL HW hF hF0 Q1 hS
      clear W0
      have HLK := hide hlook
      clear hlook
      have hc1 := Q.out.cells
      by_cases h7 : z < 0 ∧ a = 0
      · have H7 := hide h7
        clear h7
        go_wp2_with fail
        refine (qpow_zero _ _ _ _ _ _ _ _ 6 _ r1 (by omega) (by omega) z H7.out.1 H7.out.2).mono ?_
        rintro e w2 ⟨rfl, hb2⟩
        clear hc1
        have hc1 := (Q.out.below hb2).cells
        have hz2 : w.heap.size < w2.heap.size := (Q.out.below hb2).2
        have hne : ¬ w.heap.size = w2.heap.size := by omega
        have hne' : ¬ w2.heap.size = w.heap.size := by omega
        go_wp2_with fail
        refine (rqpow_zero _ _ _ _ _ _ _ _ 6 _ (r1.below hb2).upAlloc (by omega) (by omega) z H7.out.1 H7.out.2).mono ?_
        rintro e w3 ⟨rfl, hb3⟩
        have Q5 := (BoxQ.new w2 false none 0 0 none 0 0).below hb3
        have hc5 := Q5.cells
        have hz5 : w2.heap.size < w3.heap.size := Q5.2
        have hne5 : ¬ w2.heap.size = w3.heap.size := by omega
        have hne6 : ¬ w3.heap.size = w2.heap.size := by omega
        clear hc1 hne hne' hz2
        go_wp2_with fail
        refine (same_nil _).mono ?_
        rintro e w4 ⟨rfl, hb4⟩
        go_wp2
        go_ret
        exact ⟨by rfl, below_step hb4 (below_step (below_alloc w3 (.cells #[.bool false, .slice none 0 0, .slice none 0 0] 25)) (below_step hb3 (below_step (below_alloc w2 (.cells #[.bool false, .slice none 0 0, .slice none 0 0] 25)) (below_step hb2 hBw))))⟩
      · by_cases hbp : bigP a z
        · have H7 := hide h7
          have H8 := hide hbp
          clear h7 hbp
          go_wp2_with fail
          refine (qpow_e8 r1 z1 z2 H7.out H8.out).mono ?_
          rintro e w2 ⟨rfl, hb2⟩
          clear hc1
          have hc1 := (Q.out.below hb2).cells
          have hz2 : w.heap.size < w2.heap.size := (Q.out.below hb2).2
          have hne : ¬ w.heap.size = w2.heap.size := by omega
          have hne' : ¬ w2.heap.size = w.heap.size := by omega
          go_wp2_with fail
          refine (rqpow_e8 (r1.below hb2).upAlloc z1 z2 H7.out H8.out).mono ?_
          rintro e w3 ⟨rfl, hb3⟩
          have Q5 := (BoxQ.new w2 false none 0 0 none 0 0).below hb3
          have hc5 := Q5.cells
          have hz5 : w2.heap.size < w3.heap.size := Q5.2
          have hne5 : ¬ w2.heap.size = w3.heap.size := by omega
          have hne6 : ¬ w3.heap.size = w2.heap.size := by omega
          clear hc1 hne hne' hz2
          go_wp2_with fail
          refine (same_nil _).mono ?_
          rintro e w4 ⟨rfl, hb4⟩
          go_wp2
          go_ret
          exact ⟨by rfl, below_step hb4 (below_step (below_alloc w3 (.cells #[.bool false, .slice none 0 0, .slice none 0 0] 25)) (below_step hb3 (below_step (below_alloc w2 (.cells #[.bool false, .slice none 0 0, .slice none 0 0] 25)) (below_step hb2 hBw))))⟩
        · obtain ⟨l1, l2⟩ := look_lens r1 HLK.out hbp
          have H7 := hide h7
          have H8 := hide hbp
          have HL1 := hide l1
          have HL2 := hide l2
          clear h7 hbp l1 l2
          obtain ⟨X, hX⟩ : ∃ X, X = qpowV a z := ⟨_, rfl⟩
          have HX := hide hX.symm
          clear hX
          go_wp2_with fail
          refine (qpow_ok130 r1 z1 z2 H7.out H8.out HL1.out HL2.out).mono ?_
          rw [HX.out]
          rintro e w2 ⟨A5, n5, c5, B5, m5, d5, rfl, can5, hb2⟩
          clear hc1
          have hc1 := (Q.out.below hb2).cells
          have hz2 : w.heap.size < w2.heap.size := (Q.out.below hb2).2
          have hne : ¬ w.heap.size = w2.heap.size := by omega
          have hne' : ¬ w2.heap.size = w.heap.size := by omega
          go_wp2_with fail
          refine (rqpow_ok130 (r1.below hb2).upAlloc z1 z2 H7.out H8.out HL1.out HL2.out).mono ?_
          rw [HX.out]
          rintro e w3 ⟨A6, n6, c6, B6, m6, d6, rfl, can6, hb3⟩
          have Q5 := (BoxQ.new w2 (qneg X) A5 n5 c5 B5 m5 d5).below hb3
          have hc5 := Q5.cells
          have hz5 : w2.heap.size < w3.heap.size := Q5.2
          have hne5 : ¬ w2.heap.size = w3.heap.size := by omega
          have hne6 : ¬ w3.heap.size = w2.heap.size := by omega
          clear hc1 hne hne' hz2
          go_wp2_with fail
          refine (same_q_yes (((can5.below (below_alloc w2 (.cells #[.bool (qneg X), .slice A5 n5 c5, .slice B5 m5 d5] 25))).below hb3).below (below_alloc w3 (.cells #[.bool (qneg X), .slice A6 n6 c6, .slice B6 m6 d6] 25))) (can6.below (below_alloc w3 (.cells #[.bool (qneg X), .slice A6 n6 c6, .slice B6 m6 d6] 25))) rfl).mono ?_
          rintro e w4 ⟨rfl, hb4⟩
          go_wp2
          go_ret
          exact ⟨by rfl, below_step hb4 (below_step (below_alloc w3 (.cells #[.bool (qneg X), .slice A6 n6 c6, .slice B6 m6 d6] 25)) (below_step hb3 (below_step (below_alloc w2 (.cells #[.bool (qneg X), .slice A5 n5 c5, .slice B5 m5 d5] 25)) (below_step hb2 hBw))))⟩
end Go.Proofs.Ytlomanhmpbapeaa
