/- The walk of the law RationalLists. -/
import Derived.Test.YtlomanhmpbapeaaRatApp
import Derived.Test.YtlomanhmpbapeaaRatRmul
import Derived.Test.YtlomanhmpbapeaaRatRadd
import Derived.Test.YtlomanhmpbapeaaRatOf
namespace Go.Proofs.Ytlomanhmpbapeaa
open Go.RowKit

theorem ShortT.append {K : Nat} {ts us : List RatT} (h : ShortT K ts) (h' : ShortT K us) : ShortT K (ts ++ us) := fun t ht => (List.mem_append.1 ht).elim (h t) (h' t)
theorem sumT_append (ts us : List RatT) : sumT (ts ++ us) = sumT ts + sumT us := by unfold sumT; rw [List.map_append, sumQ_append]
theorem prodT_append (ts us : List RatT) : prodT (ts ++ us) = prodT ts * prodT us := by unfold prodT; rw [List.map_append, prodQ_append]

set_option maxHeartbeats 8000000 in
set_option maxRecDepth 10000 in
theorem law_RationalLists (w : World) (A : Option Addr) (n c : Nat) (ts : List RatT) (h : RawL w A n c ts) (ht : Reach ts) (hn : n ≤ 35184372088832) (A2 : Option Addr) (n2 c2 : Nat) (us : List RatT) (h' : RawL w A2 n2 c2 us) (ht' : Reach us) (hn' : n2 ≤ 35184372088832) :
    Calls Try.prog 8 #[.slice A n c, .slice A2 n2 c2] w (Makes (.bool true) w) := by
  have hcall := longq_any 4 A n c ts w h ht (by omega)
  cases hl1 : anyLongQ 4 ts with
  | true =>
    rw [hl1] at hcall
    clear hl1
    go_enter Try.func8, Try.ntmps8
    go_wp2_with fail
    refine hcall.mono ?_
    rintro e w1 ⟨rfl, hb1⟩
    clear hcall
    go_wp2
    go_ret
    exact ⟨rfl, hb1⟩
  | false =>
    rw [hl1] at hcall
    have hs1 : ShortT 4 ts := fun t hm => by have := anyLongQ_false hl1 t hm; omega
    clear hl1
    cases hl2 : anyLongQ 4 us with
    | true =>
      go_enter Try.func8, Try.ntmps8
      go_wp2_with fail
      refine hcall.mono ?_
      rintro e w1 ⟨rfl, hb1⟩
      clear hcall
      have hcall := longq_any 4 A2 n2 c2 us w1 (h'.below hb1) ht' (by omega)
      rw [hl2] at hcall
      clear hl2
      go_wp2_with fail
      refine hcall.mono ?_
      rintro e w2 ⟨rfl, hb2⟩
      clear hcall
      go_wp2
      go_ret
      exact ⟨rfl, below_step hb2 hb1⟩
    | false =>
      have hs2 : ShortT 4 us := fun t hm => by have := anyLongQ_false hl2 t hm; omega
      have n1 := h.le63
      have n2' := h'.le63
      go_enter Try.func8, Try.ntmps8
      go_wp2_with fail
      refine hcall.mono ?_
      rintro e w1 ⟨rfl, hb1⟩
      clear hcall
      have hcall := longq_any 4 A2 n2 c2 us w1 (h'.below hb1) ht' (by omega)
      rw [hl2] at hcall
      clear hl2
      go_wp2_with fail
      refine hcall.mono ?_
      rintro e w2 ⟨rfl, hb2⟩
      have hB := below_step hb2 hb1
      replace h := h.below hB
      replace h' := h'.below hB
      clear hcall hb1 hb2 ht ht'
      have hn1 : n ≤ 9223372036854775807 := n1
      by_cases hbig : 16 < n + n2
      · have hg : (16 : Int) < (n : Int) + (n2 : Int) := by omega
        clear hbig
        go_wp2
        go_ret
        exact ⟨rfl, hB⟩
      have hg : ¬ (16 : Int) < (n : Int) + (n2 : Int) := by omega
      obtain ⟨i0, hi, hz0, hz1, hz2⟩ : ∃ i, Try.prog.info? 25 = some i ∧ i.zero = some (.agg #[.bool false, .slice none 0 0, .slice none 0 0]) ∧ i.size = 3 ∧ i.bytes = 56 := by
        have hinf := Try.infoRat
        revert hinf
        cases Try.prog.info? 25 with
        | none => intro h9; cases h9
        | some i =>
          intro h9
          simp only [Option.map_some, Option.some.injEq, Prod.mk.injEq] at h9
          exact ⟨i, rfl, h9.1, h9.2.1, h9.2.2⟩
      have HI := hide hi
      have HZ0 := hide hz0
      have HZ1 := hide hz1
      have HZ2 := hide hz2
      have hm16 : n + n2 ≤ 16 := by omega
      clear hbig hi hz0 hz1 hz2
      go_wp2_with (first
        | (at_builtin; refine wpList_append_rats rfl _ _ _ rfl i0 Try.underlying44 HI.out HZ0.out HZ1.out HZ2.out _ 0 0 _ _ rfl (OwnQ.lit0 _) A n c ts rfl h n (by omega) (by omega) ?_; intro A1 c1 w3 us1 hown1)
        | (at_builtin; refine wpList_append_rats rfl _ _ _ rfl i0 Try.underlying44 HI.out HZ0.out HZ1.out HZ2.out _ _ _ _ _ rfl hown1 A2 n2 c2 us rfl h' (n + n2) (by omega) (by omega) ?_; intro A3 c3 w4 us2 hown2))
      rw [List.nil_append] at hown2
      have hall := hown2.rawl
      have hb4 := hown2.bel
      replace h := h.below hb4
      replace h' := h'.below hb4
      replace hB := below_step hb4 hB
      clear hown1 hown2 hb4 hg
      have HS := hide (hs1.append hs2)
      have HS1 := hide hs1
      have HS2 := hide hs2
      have b0 : (n + n2) * (4 + 1) ≤ 16 * (4 + 1) := Nat.mul_le_mul_right _ hm16
      have b1 : n * (4 + 1) ≤ 16 * (4 + 1) := Nat.mul_le_mul_right _ (by omega)
      have b2 : n2 * (4 + 1) ≤ 16 * (4 + 1) := Nat.mul_le_mul_right _ (by omega)
      have b3 : (n + n2) * 4 ≤ 16 * 4 := Nat.mul_le_mul_right _ hm16
      have b4 : n * 4 ≤ 16 * 4 := Nat.mul_le_mul_right _ (by omega)
      have b5 : n2 * 4 ≤ 16 * 4 := Nat.mul_le_mul_right _ (by omega)
      have HB := hide (And.intro b0 (And.intro b1 (And.intro b2 (And.intro b3 (And.intro b4 b5)))))
      have E1 := hide (sumT_append ts us)
      have E2 := hide (prodT_append ts us)
      clear hs1 hs2 b0 b1 b2 b3 b4 b5
      refine (qadd_none _).mono ?_
      rintro e w5 ⟨A5, n5, c5, B5, m5, d5, rfl, r1, hb5⟩
      replace hall := hall.below hb5
      replace h := h.below hb5
      replace h' := h'.below hb5
      replace hB := below_step hb5 hB
      clear hb5
      go_wp2_with fail
      refine (rint_q 0 _ (by omega)).mono ?_
      rintro e w6 ⟨A6, n6, c6, B6, m6, d6, rfl, r2, hb6⟩
      replace hall := hall.below hb6
      replace h := h.below hb6
      replace h' := h'.below hb6
      replace r1 := r1.below hb6
      replace hB := below_step hb6 hB
      clear hb6
      go_wp2_with fail
      refine (same_q_yes r1 r2 rfl).mono ?_
      rintro e w7 ⟨rfl, hb7⟩
      clear r1 r2
      replace hall := hall.below hb7
      replace h := h.below hb7
      replace h' := h'.below hb7
      replace hB := below_step hb7 hB
      clear hb7
      go_wp2_with fail
      refine (qmul_none _).mono ?_
      rintro e w8 ⟨A8, n8, c8, B8, m8, d8, rfl, r1, hb8⟩
      replace hall := hall.below hb8
      replace h := h.below hb8
      replace h' := h'.below hb8
      replace hB := below_step hb8 hB
      clear hb8
      go_wp2_with fail
      refine (rint_q 1 _ (by omega)).mono ?_
      rintro e w9 ⟨A9, n9, c9, B9, m9, d9, rfl, r2, hb9⟩
      replace hall := hall.below hb9
      replace h := h.below hb9
      replace h' := h'.below hb9
      replace r1 := r1.below hb9
      replace hB := below_step hb9 hB
      clear hb9
      go_wp2_with fail
      refine (same_q_yes r1 r2 rfl).mono ?_
      rintro e w10 ⟨rfl, hb10⟩
      clear r1 r2
      replace hall := hall.below hb10
      replace h := h.below hb10
      replace h' := h'.below hb10
      replace hB := below_step hb10 hB
      clear hb10
      go_wp2_with fail
      refine (qadd_any _ _ _ _ _ hall 4 (by omega) HS.out (by have := HB.out; omega)).mono ?_
      rintro e w11 ⟨A11, n11, c11, B11, m11, d11, rfl, r1, hb11⟩
      replace hall := hall.below hb11
      replace h := h.below hb11
      replace h' := h'.below hb11
      replace hB := below_step hb11 hB
      clear hb11
      go_wp2_with fail
      refine (qadd_any _ _ _ _ _ h 4 (by omega) HS1.out (by have := HB.out; omega)).mono ?_
      rintro e w12 ⟨A12, n12, c12, B12, m12, d12, rfl, r2, hb12⟩
      replace hall := hall.below hb12
      replace h := h.below hb12
      replace h' := h'.below hb12
      replace r1 := r1.below hb12
      replace hB := below_step hb12 hB
      clear hb12
      go_wp2_with fail
      refine (qadd_any _ _ _ _ _ h' 4 (by omega) HS2.out (by have := HB.out; omega)).mono ?_
      rintro e w13 ⟨A13, n13, c13, B13, m13, d13, rfl, r3, hb13⟩
      replace hall := hall.below hb13
      replace h := h.below hb13
      replace h' := h'.below hb13
      replace r1 := r1.below hb13
      replace r2 := r2.below hb13
      replace hB := below_step hb13 hB
      clear hb13
      go_wp2_with fail
      refine (radd_q _ _ _ _ _ _ _ _ 81 _ _ _ _ _ _ _ _ 81 _ (r2.wide (by have := HB.out; omega)).raw (r3.wide (by have := HB.out; omega)).raw (by omega) (by omega) (by omega) (by omega)).mono ?_
      rintro e w14 ⟨A14, n14, c14, B14, m14, d14, rfl, r4, hb14⟩
      replace hall := hall.below hb14
      replace h := h.below hb14
      replace h' := h'.below hb14
      replace r1 := r1.below hb14
      replace r2 := r2.below hb14
      replace r3 := r3.below hb14
      replace hB := below_step hb14 hB
      clear hb14
      go_wp2_with fail
      refine (same_q_yes r1 r4 E1.out).mono ?_
      rintro e w15 ⟨rfl, hb15⟩
      clear r1 r2 r3 r4
      replace hall := hall.below hb15
      replace h := h.below hb15
      replace h' := h'.below hb15
      replace hB := below_step hb15 hB
      clear hb15
      go_wp2_with fail
      refine (qmul_any _ _ _ _ _ hall 4 (by omega) HS.out (by have := HB.out; omega)).mono ?_
      rintro e w16 ⟨A16, n16, c16, B16, m16, d16, rfl, r1, hb16⟩
      replace hall := hall.below hb16
      replace h := h.below hb16
      replace h' := h'.below hb16
      replace hB := below_step hb16 hB
      clear hb16
      go_wp2_with fail
      refine (qmul_any _ _ _ _ _ h 4 (by omega) HS1.out (by have := HB.out; omega)).mono ?_
      rintro e w17 ⟨A17, n17, c17, B17, m17, d17, rfl, r2, hb17⟩
      replace hall := hall.below hb17
      replace h := h.below hb17
      replace h' := h'.below hb17
      replace r1 := r1.below hb17
      replace hB := below_step hb17 hB
      clear hb17
      go_wp2_with fail
      refine (qmul_any _ _ _ _ _ h' 4 (by omega) HS2.out (by have := HB.out; omega)).mono ?_
      rintro e w18 ⟨A18, n18, c18, B18, m18, d18, rfl, r3, hb18⟩
      replace hall := hall.below hb18
      replace h := h.below hb18
      replace h' := h'.below hb18
      replace r1 := r1.below hb18
      replace r2 := r2.below hb18
      replace hB := below_step hb18 hB
      clear hb18
      go_wp2_with fail
      refine (rmul_q _ _ _ _ _ _ _ _ 81 _ _ _ _ _ _ _ _ 81 _ (r2.wide (by have := HB.out; omega)).raw (r3.wide (by have := HB.out; omega)).raw (by omega) (by omega) (by omega) (by omega)).mono ?_
      rintro e w19 ⟨A19, n19, c19, B19, m19, d19, rfl, r4, hb19⟩
      replace hall := hall.below hb19
      replace h := h.below hb19
      replace h' := h'.below hb19
      replace r1 := r1.below hb19
      replace r2 := r2.below hb19
      replace r3 := r3.below hb19
      replace hB := below_step hb19 hB
      clear hb19
      go_wp2_with fail
      refine (same_q_yes r1 r4 E2.out).mono ?_
      rintro e w20 ⟨rfl, hb20⟩
      clear r1 r2 r3 r4
      replace hall := hall.below hb20
      replace h := h.below hb20
      replace h' := h'.below hb20
      replace hB := below_step hb20 hB
      clear hb20
      go_wp2
      go_ret
      exact ⟨by rfl, hB⟩
end Go.Proofs.Ytlomanhmpbapeaa
