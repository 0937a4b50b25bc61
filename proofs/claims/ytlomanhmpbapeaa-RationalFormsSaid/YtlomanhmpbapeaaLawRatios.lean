/- The walk of the law RationalRatios. -/
import Derived.Test.YtlomanhmpbapeaaRatMake
namespace Go.Proofs.Ytlomanhmpbapeaa
open Go.RowKit

theorem CanQ.upAlloc {w : World} {A B : Option Addr} {n c m d K : Nat} {q : Rat} {o : Obj} (h : CanQ w A n c B m d q K) : CanQ (w.alloc o) A n c B m d q K := h.below (below_alloc w o)
set_option maxHeartbeats 4000000 in
theorem law_RationalRatios (w : World) (A : Option Addr) (n c : Nat) (lA : List Nat) (hA : Rd w A n c lA) (sA : n ≤ 35184372088832) (B : Option Addr) (m d : Nat) (lB : List Nat) (hB : Rd w B m d lB) (sB : m ≤ 35184372088832) :
    Calls Try.prog 3 #[.slice A n c, .slice B m d] w (Makes (.bool true) w) := by
  by_cases hbig : 40 < n + m
  · have hg : (40 : Int) < (n : Int) + (m : Int) := by omega
    clear hbig
    go_enter Try.func3, Try.ntmps3
    go_wp2
    go_ret
    exact ⟨rfl, Below.refl _ _⟩
  have hg : ¬ (40 : Int) < (n : Int) + (m : Int) := by omega
  by_cases h0 : val lB = 0
  · have H0 := hide h0
    have HZ : Hid (ratOf false (val lB) (val (limbs 1)) = 0) := by rw [Hid, h0, ratOf_zero_num]
    have hcall := ratio_zero A n c B m d lB w hB (by omega) h0
    clear h0
    go_enter Try.func3, Try.ntmps3
    go_wp2_with fail
    refine hcall.mono ?_
    rintro e w1 ⟨rfl, hb1⟩
    clear hcall
    have q5 := BoxQ.new w1 false none 0 0 none 0 0
    have hlit := rd_lit1 (w := w1.alloc (.cells #[.bool false, .slice none 0 0, .slice none 0 0] 25)) (x := 1) (w1.heap.size + 1) (by simp) 1 rfl (by omega) (by omega)
    have hBa := below_step (below_alloc _ (.cells #[.int .u32 1] 30)) (below_step (below_alloc _ (.cells #[.bool false, .slice none 0 0, .slice none 0 0] 25)) hb1)
    have q5b := q5.below (below_alloc _ (.cells #[.int .u32 1] 30))
    clear hg
    go_wp2_with fail
    refine (make_eqv (K := 40) (hB.below hBa) hlit HZ.out (by omega) (by omega) (by omega) (by omega)).mono ?_
    rintro e w2 ⟨A', n', c', B', m', d', rfl, hcan, hb2⟩
    have q5c := (q5b.below hb2).below (below_alloc _ (.cells #[.bool (qneg 0), .slice A' n' c', .slice B' m' d'] 25))
    have hBb := below_step (below_alloc _ (.cells #[.bool (qneg 0), .slice A' n' c', .slice B' m' d'] 25)) (below_step hb2 hBa)
    clear hlit q5 q5b hBa
    go_wp2_with fail
    refine (rsign_q _ _ _ _ _ _ _ _ 40 _ (hcan.raw.below (below_alloc _ _)) (by omega) (by omega)).mono ?_
    rintro e w3 ⟨rfl, hb3⟩
    rw [qsign_of_zero rfl]
    have hc5 := (q5c.below hb3).cells
    go_wp2_with fail
    refine (nil_nil _).mono ?_
    rintro e w4 ⟨rfl, hb4⟩
    go_wp2
    go_ret
    exact ⟨rfl, below_step hb4 (below_step hb3 hBb)⟩
  · have H0 := hide h0
    have hQ := hide (qsign_ratOf (s := false) (N := val lB) (D := val (limbs 1)) h0 (by rw [val_limbs]; omega))
    have hcall := ratio_ok A n c lA B m d lB w hA hB 40 (by omega) (by omega) (by omega) (by omega) h0
    clear h0
    go_enter Try.func3, Try.ntmps3
    go_wp2_with fail
    refine hcall.mono ?_
    rintro e w1 ⟨A1, n1, c1, B1, m1, d1, rfl, hcan1, hb1⟩
    clear hcall
    have q5 := BoxQ.new w1 (qneg (ratOf false (val lA) (val lB))) A1 n1 c1 B1 m1 d1
    have hlit := rd_lit1 (w := w1.alloc (.cells #[.bool (qneg (ratOf false (val lA) (val lB))), .slice A1 n1 c1, .slice B1 m1 d1] 25)) (x := 1) (w1.heap.size + 1) (by simp) 1 rfl (by omega) (by omega)
    have hBa := below_step (below_alloc _ (.cells #[.int .u32 1] 30)) (below_step (below_alloc _ (.cells #[.bool (qneg (ratOf false (val lA) (val lB))), .slice A1 n1 c1, .slice B1 m1 d1] 25)) hb1)
    have q5b := q5.below (below_alloc _ (.cells #[.int .u32 1] 30))
    have hcan1b := (hcan1.below (below_alloc _ (.cells #[.bool (qneg (ratOf false (val lA) (val lB))), .slice A1 n1 c1, .slice B1 m1 d1] 25))).below (below_alloc _ (.cells #[.int .u32 1] 30))
    clear hg
    go_wp2_with fail
    refine (make_eqv (K := 40) (hB.below hBa) hlit rfl (by omega) (by omega) (by omega) (by omega)).mono ?_
    rintro e w2 ⟨A', n', c', B', m', d', rfl, hcan, hb2⟩
    have q5c := (q5b.below hb2).below (below_alloc _ (.cells #[.bool (qneg (ratOf false (val lB) (val (limbs 1)))), .slice A' n' c', .slice B' m' d'] 25))
    have hBb := below_step (below_alloc _ (.cells #[.bool (qneg (ratOf false (val lB) (val (limbs 1)))), .slice A' n' c', .slice B' m' d'] 25)) (below_step hb2 hBa)
    have hcan1c := (hcan1b.below hb2).below (below_alloc _ (.cells #[.bool (qneg (ratOf false (val lB) (val (limbs 1)))), .slice A' n' c', .slice B' m' d'] 25))
    clear hlit q5 q5b hBa hcan1 hcan1b
    go_wp2_with fail
    refine (rsign_q _ _ _ _ _ _ _ _ 40 _ (hcan.raw.below (below_alloc _ _)) (by omega) (by omega)).mono ?_
    rintro e w3 ⟨rfl, hb3⟩
    rw [hQ.out]
    have q5d := q5c.below hb3
    have hBc := below_step hb3 hBb
    have hcan1d := hcan1c.below hb3
    have hA3 := hA.below hBc
    have hB3 := hB.below hBc
    clear hcan hcan1c q5c hBb
    obtain ⟨W, hW⟩ : ∃ W, W = w3 := ⟨_, rfl⟩
    subst hW
    have Q5 := hide q5d
    have hF := From.refl W
    have hc5 := Q5.out.cells
    clear q5d
    go_wp2_with fail
    go_region_held3 (fun w' => From W w' ∧ w'.cell? ⟨w1.heap.size, 0, none⟩ = some (.bool (qneg (ratOf false (val lA) (val lB)))) ∧ w'.cell? ⟨w1.heap.size, 1, none⟩ = some (.slice A1 n1 c1) ∧ w'.cell? ⟨w1.heap.size, 2, none⟩ = some (.slice B1 m1 d1))
      ((go_split_ands; exact ⟨(by repeat (first | with_reducible assumption | with_reducible apply From.drew | with_reducible apply From.alloc)), (Q5.out.later (by repeat (first | with_reducible assumption | with_reducible apply From.drew | with_reducible apply From.alloc))).cells.1, (Q5.out.later (by repeat (first | with_reducible assumption | with_reducible apply From.drew | with_reducible apply From.alloc))).cells.2.1, (Q5.out.later (by repeat (first | with_reducible assumption | with_reducible apply From.drew | with_reducible apply From.alloc))).cells.2.2⟩))
      (first
      | (go_at_call 17; refine (make_eqv (K := 40) (by repeat (first | with_reducible assumption | with_reducible apply Rd.drew | with_reducible apply Rd.upAlloc | ((with_reducible apply Rd.up); (with_reducible assumption)))) (by repeat (first | with_reducible assumption | with_reducible apply Rd.drew | with_reducible apply Rd.upAlloc | ((with_reducible apply Rd.up); (with_reducible assumption)))) rfl (by omega) (by omega) (by omega) (by omega)).mono ?_; rintro e w' ⟨A', n', c', B', m', d', rfl, h', hb'⟩; go_split_ands; have hF' : From W w' := From.step (by repeat (first | with_reducible assumption | with_reducible apply From.drew | with_reducible apply From.alloc)) hb')
      | (go_at_call 20; refine (same_q_yes (by repeat (first | with_reducible assumption | with_reducible apply CanQ.drew | with_reducible apply CanQ.upAlloc | ((with_reducible apply CanQ.up); (with_reducible assumption)))) (by repeat (first | with_reducible assumption | with_reducible apply CanQ.drew | with_reducible apply CanQ.upAlloc | ((with_reducible apply CanQ.up); (with_reducible assumption)))) rfl).mono ?_; rintro e w' ⟨rfl, hb'⟩; go_split_ands; have hF' : From W w' := From.step (by repeat (first | with_reducible assumption | with_reducible apply From.drew | with_reducible apply From.alloc)) hb'))
    go_wp2
    go_ret
    exact ⟨by rfl, below_step (From.out (by repeat (first | with_reducible assumption | with_reducible apply From.drew | with_reducible apply From.alloc))) hBc⟩
end Go.Proofs.Ytlomanhmpbapeaa
