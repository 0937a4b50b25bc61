/- The walk of the reference's Is, and of the law RationalForms. -/
import Derived.Test.YtlomanhmpbapeaaRatLong
import Derived.Test.YtlomanhmpbapeaaLawRatios
namespace Go.Proofs.Ytlomanhmpbapeaa
open Go.RowKit

section
variable {w : World} {s : Bool} {A B : Option Addr} {n c m d K : Nat} {q : Rat}
theorem RawQ.drew (h : RawQ w s A n c B m d q K) : RawQ w.drew s A n c B m d q K := by
  obtain ⟨⟨ln, ld, h1, h2, h3⟩, hn, hm⟩ := h
  exact ⟨⟨ln, ld, h1.drew, h2.drew, h3⟩, hn, hm⟩
theorem RawQ.upAlloc {o : Obj} (h : RawQ w s A n c B m d q K) : RawQ (w.alloc o) s A n c B m d q K := h.below (below_alloc w o)
end

set_option maxHeartbeats 2000000 in
theorem ris_q (s : Bool) (A : Option Addr) (n c : Nat) (ln : List Nat) (B : Option Addr) (m d : Nat) (ld : List Nat) (q : Rat) (K : Nat) (w : World) (h : Rd w A n c ln) (h' : Rd w B m d ld) (he : ratOf s (val ln) (val ld) = q) (hn : n ≤ K) (hm : m ≤ K) (hK1 : 1 ≤ K) (hK : K ≤ 1000) :
    Calls Try.prog 27 #[.agg #[.bool s, .slice A n c, .slice B m d]] w (Makes (.bool (isV s ln ld q)) w) := by
  obtain ⟨W, hW, hS, q1⟩ := box1 w s A n c B m d
  have hr : RawQ w s A n c B m d q K := ⟨⟨ln, ld, h, h', he⟩, hn, hm⟩
  replace hr := hr.below hS
  have h1 := h.below hS
  have h2 := h'.below hS
  have hc1 := q1.cells
  have HW := hide hW
  have Q1 := hide q1
  clear hW he h h' q1
  go_enter Try.func27, Try.ntmps27
  go_wp2_with fail
  rw [← HW.out]
  have hF := From.refl W
  go_region_held3 (fun w' => From W w' ∧ w'.cell? ⟨w.heap.size, 0, none⟩ = some (.bool s) ∧ w'.cell? ⟨w.heap.size, 1, none⟩ = some (.slice A n c) ∧ w'.cell? ⟨w.heap.size, 2, none⟩ = some (.slice B m d))
    ((go_split_ands; exact ⟨(by repeat (first | with_reducible assumption | with_reducible apply From.drew | with_reducible apply From.alloc)), (Q1.out.later (by repeat (first | with_reducible assumption | with_reducible apply From.drew | with_reducible apply From.alloc))).cells.1, (Q1.out.later (by repeat (first | with_reducible assumption | with_reducible apply From.drew | with_reducible apply From.alloc))).cells.2.1, (Q1.out.later (by repeat (first | with_reducible assumption | with_reducible apply From.drew | with_reducible apply From.alloc))).cells.2.2⟩))
    (first
    | (go_at_call 25; (with_reducible refine (rtrim_q _ _ _ _ _ _ _ _ _ _ (by repeat (first | with_reducible assumption | with_reducible apply RawQ.drew | with_reducible apply RawQ.upAlloc | ((with_reducible apply RawQ.up); (with_reducible assumption)))) hK1 hK).mono ?_); rintro e w' ⟨A', n', c', B', m', d', rfl, h', hb'⟩; go_split_ands; have hF' : From W w' := From.step (by repeat (first | with_reducible assumption | with_reducible apply From.drew | with_reducible apply From.alloc)) hb')
    | (go_at_call 49; (with_reducible refine (rsameq_any _ _ _ _ _ _ _ _ _ _ _ _ _ _ _ _ _ _ _ (by repeat (first | with_reducible assumption | with_reducible apply Rd.drew | with_reducible apply Rd.upAlloc | ((with_reducible apply Rd.up); (with_reducible assumption)))) (by repeat (first | with_reducible assumption | with_reducible apply Rd.drew | with_reducible apply Rd.upAlloc | ((with_reducible apply Rd.up); (with_reducible assumption)))) (CanQ.num (by repeat (first | with_reducible assumption | with_reducible apply CanQ.drew | with_reducible apply CanQ.upAlloc | ((with_reducible apply CanQ.up); (with_reducible assumption))))) (CanQ.den (by repeat (first | with_reducible assumption | with_reducible apply CanQ.drew | with_reducible apply CanQ.upAlloc | ((with_reducible apply CanQ.up); (with_reducible assumption)))))).mono ?_); rintro e w' ⟨rfl, hb'⟩; go_split_ands; have hF' : From W w' := From.step (by repeat (first | with_reducible assumption | with_reducible apply From.drew | with_reducible apply From.alloc)) hb'))
  go_wp2
  go_ret
  exact ⟨by rfl, below_step (From.out (by repeat (first | with_reducible assumption | with_reducible apply From.drew | with_reducible apply From.alloc))) hS⟩

set_option maxHeartbeats 8000000 in
set_option maxRecDepth 10000 in
theorem law_RationalForms (w : World) (s : Bool) (A : Option Addr) (n c : Nat) (ln : List Nat) (B : Option Addr) (m d : Nat) (ld : List Nat) (h : Rd w A n c ln) (sA : n ≤ 35184372088832) (h' : Rd w B m d ld) (sB : m ≤ 35184372088832) :
    Calls Try.prog 5 #[.agg #[.bool s, .slice A n c, .slice B m d]] w (Makes (.bool true) w) := by
  obtain ⟨W, hW, hS, q1⟩ := box1 w s A n c B m d
  have h1 := h.below hS
  have h2 := h'.below hS
  have hlist := rawl_one (s := s) (g := w.heap.size + 1) (by rw [hW]; simp) h1 h2
  have hcall := longq_any 40 _ 1 1 _ _ hlist (by
    intro t ht
    simp only [List.mem_singleton] at ht
    subst ht
    exact ⟨by rw [h1.len]; exact sA, by rw [h2.len]; exact sB⟩) (by omega)
  have hB2 := below_step (below_alloc W (.cells #[.bool s, .slice A n c, .slice B m d] 25)) hS
  have HW := hide hW
  have HCALL := hide hcall
  have q1b := q1.below (below_alloc W (.cells #[.bool s, .slice A n c, .slice B m d] 25))
  have hc1 := q1.cells
  clear hW hcall hlist sA sB h h'
  go_enter Try.func5, Try.ntmps5
  go_wp2_with fail
  rw [← HW.out]
  refine HCALL.out.mono ?_
  rintro e w1 ⟨rfl, hb1⟩
  cases hlong : anyLongQ 40 [(s, ln, ld)] with
  | true =>
    clear hlong hc1
    go_wp2
    go_ret
    exact ⟨rfl, below_step hb1 hB2⟩
  | false =>
    have hnm : n + m ≤ 40 := by
      have := anyLongQ_false hlong (s, ln, ld) (by simp)
      rw [h1.len, h2.len] at this
      exact this
    have hB3 := below_step hb1 hB2
    have q1c := q1b.below hb1
    have k1 := (h1.below (below_alloc _ (.cells #[.bool s, .slice A n c, .slice B m d] 25))).below hb1
    have k2 := (h2.below (below_alloc _ (.cells #[.bool s, .slice A n c, .slice B m d] 25))).below hb1
    obtain ⟨W0, hW0⟩ : ∃ W0 : World, W0 = W := ⟨_, rfl⟩
    rw [← hW0] at HW HCALL
    clear hlong hc1 h1 h2 q1 q1b hS hB2 hb1 HCALL HW hW0
    clear W
    obtain ⟨W, hW⟩ : ∃ W : World, W = w1 := ⟨_, rfl⟩
    subst hW
    have hr : RawQ W s A n c B m d (ratOf s (val ln) (val ld)) 40 := ⟨⟨ln, ld, k1, k2, rfl⟩, by omega, by omega⟩
    have Q1 := hide q1c
    have hc1 := q1c.cells
    have hF := From.refl W
    clear q1c
    go_wp2_with fail
    go_region_held3 (fun w' => From W w' ∧ w'.cell? ⟨w.heap.size, 0, none⟩ = some (.bool s) ∧ w'.cell? ⟨w.heap.size, 1, none⟩ = some (.slice A n c) ∧ w'.cell? ⟨w.heap.size, 2, none⟩ = some (.slice B m d))
      ((go_split_ands; exact ⟨(by repeat (first | with_reducible assumption | with_reducible apply From.drew | with_reducible apply From.alloc)), (Q1.out.later (by repeat (first | with_reducible assumption | with_reducible apply From.drew | with_reducible apply From.alloc))).cells.1, (Q1.out.later (by repeat (first | with_reducible assumption | with_reducible apply From.drew | with_reducible apply From.alloc))).cells.2.1, (Q1.out.later (by repeat (first | with_reducible assumption | with_reducible apply From.drew | with_reducible apply From.alloc))).cells.2.2⟩))
      (first
      | (go_at_call 24; (with_reducible refine (trim_q _ _ _ _ _ _ _ _ _ _ (by repeat (first | with_reducible assumption | with_reducible apply RawQ.drew | with_reducible apply RawQ.upAlloc | ((with_reducible apply RawQ.up); (with_reducible assumption)))) (by omega) (by omega)).mono ?_); rintro e w' ⟨A', n', c', B', m', d', rfl, h', hb'⟩; go_split_ands; have hF' : From W w' := From.step (by repeat (first | with_reducible assumption | with_reducible apply From.drew | with_reducible apply From.alloc)) hb')
      | (go_at_call 25; (with_reducible refine (rtrim_q _ _ _ _ _ _ _ _ _ _ (by repeat (first | with_reducible assumption | with_reducible apply RawQ.drew | with_reducible apply RawQ.upAlloc | ((with_reducible apply RawQ.up); (with_reducible assumption)))) (by omega) (by omega)).mono ?_); rintro e w' ⟨A', n', c', B', m', d', rfl, h', hb'⟩; go_split_ands; have hF' : From W w' := From.step (by repeat (first | with_reducible assumption | with_reducible apply From.drew | with_reducible apply From.alloc)) hb')
      | (go_at_call 20; (with_reducible refine (same_q_yes (by repeat (first | with_reducible assumption | with_reducible apply CanQ.drew | with_reducible apply CanQ.upAlloc | ((with_reducible apply CanQ.up); (with_reducible assumption)))) (by repeat (first | with_reducible assumption | with_reducible apply CanQ.drew | with_reducible apply CanQ.upAlloc | ((with_reducible apply CanQ.up); (with_reducible assumption)))) rfl).mono ?_); rintro e w' ⟨rfl, hb'⟩; go_split_ands; have hF' : From W w' := From.step (by repeat (first | with_reducible assumption | with_reducible apply From.drew | with_reducible apply From.alloc)) hb')
      | (go_at_call 26; (with_reducible refine (is_q _ _ _ _ _ _ _ _ _ _ 40 _ (by repeat (first | with_reducible assumption | with_reducible apply Rd.drew | with_reducible apply Rd.upAlloc | ((with_reducible apply Rd.up); (with_reducible assumption)))) (by repeat (first | with_reducible assumption | with_reducible apply Rd.drew | with_reducible apply Rd.upAlloc | ((with_reducible apply Rd.up); (with_reducible assumption)))) rfl (by omega) (by omega) (by omega) (by omega)).mono ?_); rintro e w' ⟨rfl, hb'⟩; go_split_ands; have hF' : From W w' := From.step (by repeat (first | with_reducible assumption | with_reducible apply From.drew | with_reducible apply From.alloc)) hb')
      | (go_at_call 27; (with_reducible refine (ris_q _ _ _ _ _ _ _ _ _ _ 40 _ (by repeat (first | with_reducible assumption | with_reducible apply Rd.drew | with_reducible apply Rd.upAlloc | ((with_reducible apply Rd.up); (with_reducible assumption)))) (by repeat (first | with_reducible assumption | with_reducible apply Rd.drew | with_reducible apply Rd.upAlloc | ((with_reducible apply Rd.up); (with_reducible assumption)))) rfl (by omega) (by omega) (by omega) (by omega)).mono ?_); rintro e w' ⟨rfl, hb'⟩; go_split_ands; have hF' : From W w' := From.step (by repeat (first | with_reducible assumption | with_reducible apply From.drew | with_reducible apply From.alloc)) hb')
      | (go_at_call 28; (with_reducible refine (sign_q _ _ _ _ _ _ _ _ _ _ (by repeat (first | with_reducible assumption | with_reducible apply RawQ.drew | with_reducible apply RawQ.upAlloc | ((with_reducible apply RawQ.up); (with_reducible assumption)))) (by omega)).mono ?_); rintro e w' ⟨rfl, hb'⟩; go_split_ands; have hF' : From W w' := From.step (by repeat (first | with_reducible assumption | with_reducible apply From.drew | with_reducible apply From.alloc)) hb')
      | (go_at_call 18; (with_reducible refine (rsign_q _ _ _ _ _ _ _ _ _ _ (by repeat (first | with_reducible assumption | with_reducible apply RawQ.drew | with_reducible apply RawQ.upAlloc | ((with_reducible apply RawQ.up); (with_reducible assumption)))) (by omega) (by omega)).mono ?_); rintro e w' ⟨rfl, hb'⟩; go_split_ands; have hF' : From W w' := From.step (by repeat (first | with_reducible assumption | with_reducible apply From.drew | with_reducible apply From.alloc)) hb')
      | (go_at_call 29; (with_reducible refine (neg_q _ _ _ _ _ _ _ _ _ _ (by repeat (first | with_reducible assumption | with_reducible apply RawQ.drew | with_reducible apply RawQ.upAlloc | ((with_reducible apply RawQ.up); (with_reducible assumption)))) (by omega) (by omega)).mono ?_); rintro e w' ⟨A', n', c', B', m', d', rfl, h', hb'⟩; go_split_ands; have hF' : From W w' := From.step (by repeat (first | with_reducible assumption | with_reducible apply From.drew | with_reducible apply From.alloc)) hb')
      | (go_at_call 30; (with_reducible refine (rneg_q _ _ _ _ _ _ _ _ _ _ (by repeat (first | with_reducible assumption | with_reducible apply RawQ.drew | with_reducible apply RawQ.upAlloc | ((with_reducible apply RawQ.up); (with_reducible assumption)))) (by omega) (by omega)).mono ?_); rintro e w' ⟨A', n', c', B', m', d', rfl, h', hb'⟩; go_split_ands; have hF' : From W w' := From.step (by repeat (first | with_reducible assumption | with_reducible apply From.drew | with_reducible apply From.alloc)) hb'))
    go_wp2
    go_ret
    exact ⟨by rfl, below_step (From.out (by repeat (first | with_reducible assumption | with_reducible apply From.drew | with_reducible apply From.alloc))) hB3⟩
end Go.Proofs.Ytlomanhmpbapeaa
