/- Lists of rationals in memory, and the walk of the law's look at lengths. -/
import Derived.Test.YtlomanhmpbapeaaRatMake
namespace Go.Proofs.Ytlomanhmpbapeaa
open Go.RowKit

/-- A rational as data: its sign, its numerator's and its denominator's limbs. -/
abbrev RatT := Bool × List Nat × List Nat
def ratT (t : RatT) : Rat := ratOf t.1 (val t.2.1) (val t.2.2)
/-- The struct value '.agg #[..]' reads as t. -/
def RdT (w : World) (t : RatT) (A : Option Addr) (n c : Nat) (B : Option Addr) (m d : Nat) : Prop := Rd w A n c t.2.1 ∧ Rd w B m d t.2.2
/-- A slice of rationals: three cells each. -/
structure RawL (w : World) (A : Option Addr) (n c : Nat) (ts : List RatT) : Prop where
  len : ts.length = n
  cap : n ≤ c
  max : c ≤ maxLen
  cells : 0 < n → ∃ b off, A = some ⟨b, off, none⟩ ∧ b < w.heap.size ∧ ∀ j, j < n → ∃ An nn cn Ad nd cd, w.cell? ⟨b, off + j * 3, none⟩ = some (.bool (ts.getD j (false, [], [])).1) ∧ w.cell? ⟨b, off + j * 3 + 1, none⟩ = some (.slice An nn cn) ∧
    w.cell? ⟨b, off + j * 3 + 2, none⟩ = some (.slice Ad nd cd) ∧ Rd w An nn cn (ts.getD j (false, [], [])).2.1 ∧ Rd w Ad nd cd (ts.getD j (false, [], [])).2.2
section
variable {w w' : World} {A B : Option Addr} {n c m d K : Nat} {ts : List RatT}
theorem RawL.below (h : RawL w A n c ts) (hb : Below w.heap.size w w') : RawL w' A n c ts :=
  ⟨h.len, h.cap, h.max, fun hn => by
    obtain ⟨b, off, e, hlt, hc⟩ := h.cells hn
    refine ⟨b, off, e, Nat.lt_of_lt_of_le hlt hb.size, fun j hj => ?_⟩
    obtain ⟨An, nn, cn, Ad, nd, cd, h1, h2, h3, h4, h5⟩ := hc j hj
    exact ⟨An, nn, cn, Ad, nd, cd, (hb.cell (p := ⟨b, off + j * 3, none⟩) hlt).trans h1, (hb.cell (p := ⟨b, off + j * 3 + 1, none⟩) hlt).trans h2, (hb.cell (p := ⟨b, off + j * 3 + 2, none⟩) hlt).trans h3, h4.below hb, h5.below hb⟩⟩
theorem RawL.up (hb : Below w.heap.size w w') (h : RawL w A n c ts) : RawL w' A n c ts := h.below hb
theorem RawL.upAlloc {o : Obj} (h : RawL w A n c ts) : RawL (w.alloc o) A n c ts := h.below (below_alloc w o)
theorem RawL.drew (h : RawL w A n c ts) : RawL w.drew A n c ts :=
  ⟨h.len, h.cap, h.max, fun hn => by
    obtain ⟨b, off, e, hlt, hc⟩ := h.cells hn
    refine ⟨b, off, e, hlt, fun j hj => ?_⟩
    obtain ⟨An, nn, cn, Ad, nd, cd, h1, h2, h3, h4, h5⟩ := hc j hj
    exact ⟨An, nn, cn, Ad, nd, cd, h1, h2, h3, h4.drew, h5.drew⟩⟩
theorem RawL.le63 (h : RawL w A n c ts) : n ≤ 9223372036854775807 := by
  have := h.cap; have := h.max; unfold maxLen at this; omega
theorem RawL.nil (w : World) : RawL w none 0 0 [] := ⟨rfl, Nat.le_refl _, Nat.zero_le _, fun h => absurd h (by omega)⟩
/-- Lists that are written out. -/
theorem rawl_one {s : Bool} {ln ld : List Nat} {g : Nat} (hg : g = w.heap.size) (h : Rd w A n c ln) (h' : Rd w B m d ld) :
    RawL (w.alloc (.cells #[.bool s, .slice A n c, .slice B m d] 25)) (some ⟨g, 0, none⟩) 1 1 [(s, ln, ld)] := by
  subst hg
  refine ⟨rfl, Nat.le_refl _, by decide, fun _ => ⟨w.heap.size, 0, rfl, by simp, fun j hj => ?_⟩⟩
  obtain rfl : j = 0 := by omega
  refine ⟨A, n, c, B, m, d, ?_, ?_, ?_, h.below (below_alloc w _), h'.below (below_alloc w _)⟩ <;> (rw [cell_of_row _ _ _ _ _ _ (heap_alloc_new w _)]; rfl)
theorem rawl_two {s : Bool} {ln ld : List Nat} {A2 B2 : Option Addr} {n2 c2 m2 d2 : Nat} {t : Bool} {kn kd : List Nat} {g : Nat} (hg : g = w.heap.size) (h : Rd w A n c ln) (h' : Rd w B m d ld) (k : Rd w A2 n2 c2 kn) (k' : Rd w B2 m2 d2 kd) :
    RawL (w.alloc (.cells #[.bool s, .slice A n c, .slice B m d, .bool t, .slice A2 n2 c2, .slice B2 m2 d2] 25)) (some ⟨g, 0, none⟩) 2 2 [(s, ln, ld), (t, kn, kd)] := by
  subst hg
  refine ⟨rfl, Nat.le_refl _, by decide, fun _ => ⟨w.heap.size, 0, rfl, by simp, fun j hj => ?_⟩⟩
  rcases (show j = 0 ∨ j = 1 by omega) with rfl | rfl
  · refine ⟨A, n, c, B, m, d, ?_, ?_, ?_, h.below (below_alloc w _), h'.below (below_alloc w _)⟩ <;> (rw [cell_of_row _ _ _ _ _ _ (heap_alloc_new w _)]; rfl)
  · refine ⟨A2, n2, c2, B2, m2, d2, ?_, ?_, ?_, k.below (below_alloc w _), k'.below (below_alloc w _)⟩ <;> (rw [cell_of_row _ _ _ _ _ _ (heap_alloc_new w _)]; rfl)
theorem rawl_three {s : Bool} {ln ld : List Nat} {A2 B2 : Option Addr} {n2 c2 m2 d2 : Nat} {t : Bool} {kn kd : List Nat} {A3 B3 : Option Addr} {n3 c3 m3 d3 : Nat} {u : Bool} {jn jd : List Nat} {g : Nat} (hg : g = w.heap.size)
    (h : Rd w A n c ln) (h' : Rd w B m d ld) (k : Rd w A2 n2 c2 kn) (k' : Rd w B2 m2 d2 kd) (i : Rd w A3 n3 c3 jn) (i' : Rd w B3 m3 d3 jd) :
    RawL (w.alloc (.cells #[.bool s, .slice A n c, .slice B m d, .bool t, .slice A2 n2 c2, .slice B2 m2 d2, .bool u, .slice A3 n3 c3, .slice B3 m3 d3] 25)) (some ⟨g, 0, none⟩) 3 3 [(s, ln, ld), (t, kn, kd), (u, jn, jd)] := by
  subst hg
  refine ⟨rfl, Nat.le_refl _, by decide, fun _ => ⟨w.heap.size, 0, rfl, by simp, fun j hj => ?_⟩⟩
  rcases (show j = 0 ∨ j = 1 ∨ j = 2 by omega) with rfl | rfl | rfl
  · refine ⟨A, n, c, B, m, d, ?_, ?_, ?_, h.below (below_alloc w _), h'.below (below_alloc w _)⟩ <;> (rw [cell_of_row _ _ _ _ _ _ (heap_alloc_new w _)]; rfl)
  · refine ⟨A2, n2, c2, B2, m2, d2, ?_, ?_, ?_, k.below (below_alloc w _), k'.below (below_alloc w _)⟩ <;> (rw [cell_of_row _ _ _ _ _ _ (heap_alloc_new w _)]; rfl)
  · refine ⟨A3, n3, c3, B3, m3, d3, ?_, ?_, ?_, i.below (below_alloc w _), i'.below (below_alloc w _)⟩ <;> (rw [cell_of_row _ _ _ _ _ _ (heap_alloc_new w _)]; rfl)
end

/-- Is one of the rationals longer than that? -/
def anyLongQ (most : Nat) (ts : List RatT) : Bool := ts.any fun t => decide (most < t.2.1.length + t.2.2.length)
theorem anyLongQ_false {most : Nat} {ts : List RatT} (h : anyLongQ most ts = false) : ∀ t ∈ ts, t.2.1.length + t.2.2.length ≤ most := by
  intro t ht
  unfold anyLongQ at h
  rw [List.any_eq_false] at h
  have := h t ht
  simp at this
  exact this
/-- As long as data that came in can be. -/
def Reach (ts : List RatT) : Prop := ∀ t ∈ ts, t.2.1.length ≤ 35184372088832 ∧ t.2.2.length ≤ 35184372088832

set_option maxHeartbeats 1000000 in
theorem longq_any (most : Nat) (A : Option Addr) (n c : Nat) (ts : List RatT) (w : World) (h : RawL w A n c ts) (hs : Reach ts) (hm : most ≤ 1000) :
    Calls Try.prog 23 #[.int .i64 (most : Int), .slice A n c] w (Makes (.bool (anyLongQ most ts)) w) := by
  have h63 := h.le63
  have HLEN := hide h.len
  go_enter Try.func23, Try.ntmps23
  go_wp2_with fail
  go_loopw [5] (fun i wr => ∃ j : Nat, j ≤ n ∧ i = .int .i64 (j : Int) ∧ anyLongQ most (ts.take j) = false ∧ Below w.heap.size w wr) (fun i _ => n - (intOf i).toNat)
  case atStart => exact ⟨0, Nat.zero_le _, rfl, rfl, Below.refl _ _⟩
  case round =>
    obtain ⟨j, hj, rfl, hall, hS⟩ := hrel
    have HA := hide hall
    clear hall
    by_cases hlt : j < n
    · obtain ⟨b, off, rfl, hb, hcells⟩ := (h.below hS).cells (by omega)
      obtain ⟨An, nn, cn, Ad, nd, cd, h1, h2, h3, h4, h5⟩ := hcells j hlt
      have hjl : j < ts.length := by rw [HLEN.out]; exact hlt
      have hmem : ts.getD j (false, [], []) ∈ ts := by
        rw [List.getD_eq_getElem?_getD, List.getElem?_eq_getElem hjl]
        exact List.getElem_mem hjl
      obtain ⟨hr1, hr2⟩ := hs _ hmem
      have hnn : nn ≤ 35184372088832 := by rw [← h4.len]; exact hr1
      have hnd : nd ≤ 35184372088832 := by rw [← h5.len]; exact hr2
      have HT : Hid (ts.take (j + 1) = ts.take j ++ [ts.getD j (false, [], [])]) := by
        rw [Hid, List.take_succ_eq_append_getElem hjl, List.getD_eq_getElem?_getD, List.getElem?_eq_getElem hjl]; rfl
      have HL4 := hide h4.len
      have HL5 := hide h5.len
      have HM := hide hmem
      clear hcells hjl hmem hr1 hr2 h4 h5
      have hi : (j : Int) < (n : Int) := by omega
      generalize ts.getD j (false, [], []) = t at *
      by_cases hg : most < nn + nd
      · have HF : Hid (anyLongQ most ts = true) := by
          unfold Hid anyLongQ
          rw [List.any_eq_true]
          exact ⟨t, HM.out, by rw [HL4.out, HL5.out]; exact decide_eq_true hg⟩
        have hg' : ((most : Int) < (nn : Int) + (nd : Int)) := by omega
        go_wp2_with fail
        go_quiet (fail)
        go_wp2
        go_ret
        rw [HF.out]
        exact ⟨rfl, below_drewN hS _⟩
      · have HL : Hid (anyLongQ most (ts.take (j + 1)) = false) := by
          rw [HT.out]
          have := HA.out
          unfold anyLongQ at this
          simp only [Hid, anyLongQ, List.any_append, this, List.any_cons, List.any_nil, Bool.false_or, Bool.or_false, decide_eq_false_iff_not, HL4.out, HL5.out]
          exact hg
        have hg' : ¬ ((most : Int) < (nn : Int) + (nd : Int)) := by omega
        go_wp2_with fail
        go_quiet (fail)
        go_wp2
        go_roundw
        case rel => exact ⟨j + 1, by omega, by go_num, HL.out, below_drewN hS _⟩
        case measure => simp [intOf]; omega
    · have HF : Hid (anyLongQ most ts = false) := by
        have := HA.out
        rwa [List.take_of_length_le (by rw [HLEN.out]; omega)] at this
      go_wp2
      go_ret
      rw [HF.out]
      exact ⟨rfl, hS⟩

set_option maxHeartbeats 2000000 in
theorem ris_q (s : Bool) (A : Option Addr) (n c : Nat) (ln : List Nat) (B : Option Addr) (m d : Nat) (ld : List Nat) (q : Rat) (K : Nat) (w : World) (h : Rd w A n c ln) (h' : Rd w B m d ld) (he : ratOf s (val ln) (val ld) = q) (hn : n ≤ K) (hm : m ≤ K) (hK1 : 1 ≤ K) (hK : K ≤ 1000) :
    Calls Try.prog 27 #[.agg #[.bool s, .slice A n c, .slice B m d]] w (Makes (.bool (isV s ln ld q)) w) := by
  obtain ⟨W, hW, hS, q1⟩ := box1 w s A n c B m d
  have hr : RawQ w s A n c B m d q K := ⟨⟨ln, ld, h, h', he⟩, hn, hm⟩
  replace hr := hr.below hS
  have h1 := h.below hS
  have h2 := h'.below hS
  have hc1 := q1.cells
  have HW := hide hW
  have Q1 := hide q1
  clear hW he h h' q1
  go_enter Try.func27, Try.ntmps27
  go_wp2_with fail
  rw [← HW.out]
  have hF := From.refl W
  go_region_held3 (fun w' => From W w' ∧ w'.cell? ⟨w.heap.size, 0, none⟩ = some (.bool s) ∧ w'.cell? ⟨w.heap.size, 1, none⟩ = some (.slice A n c) ∧ w'.cell? ⟨w.heap.size, 2, none⟩ = some (.slice B m d))
    ((go_split_ands; exact ⟨(by repeat (first | with_reducible assumption | with_reducible apply From.drew | with_reducible apply From.alloc)), (Q1.out.later (by repeat (first | with_reducible assumption | with_reducible apply From.drew | with_reducible apply From.alloc))).cells.1, (Q1.out.later (by repeat (first | with_reducible assumption | with_reducible apply From.drew | with_reducible apply From.alloc))).cells.2.1, (Q1.out.later (by repeat (first | with_reducible assumption | with_reducible apply From.drew | with_reducible apply From.alloc))).cells.2.2⟩))
    (first
    | (go_at_call 25; (with_reducible refine (rtrim_q _ _ _ _ _ _ _ _ _ _ (by repeat (first | with_reducible assumption | with_reducible apply RawQ.drew | with_reducible apply RawQ.upAlloc | ((with_reducible apply RawQ.up); (with_reducible assumption)))) hK1 hK).mono ?_); rintro e w' ⟨A', n', c', B', m', d', rfl, h', hb'⟩; go_split_ands; have hF' : From W w' := From.step (by repeat (first | with_reducible assumption | with_reducible apply From.drew | with_reducible apply From.alloc)) hb')
    | (go_at_call 49; (with_reducible refine (rsameq_any _ _ _ _ _ _ _ _ _ _ _ _ _ _ _ _ _ _ _ (by repeat (first | with_reducible assumption | with_reducible apply Rd.drew | with_reducible apply Rd.upAlloc | ((with_reducible apply Rd.up); (with_reducible assumption)))) (by repeat (first | with_reducible assumption | with_reducible apply Rd.drew | with_reducible apply Rd.upAlloc | ((with_reducible apply Rd.up); (with_reducible assumption)))) (CanQ.num (by repeat (first | with_reducible assumption | with_reducible apply CanQ.drew | with_reducible apply CanQ.upAlloc | ((with_reducible apply CanQ.up); (with_reducible assumption))))) (CanQ.den (by repeat (first | with_reducible assumption | with_reducible apply CanQ.drew | with_reducible apply CanQ.upAlloc | ((with_reducible apply CanQ.up); (with_reducible assumption)))))).mono ?_); rintro e w' ⟨rfl, hb'⟩; go_split_ands; have hF' : From W w' := From.step (by repeat (first | with_reducible assumption | with_reducible apply From.drew | with_reducible apply From.alloc)) hb'))
  go_wp2
  go_ret
  exact ⟨by rfl, below_step (From.out (by repeat (first | with_reducible assumption | with_reducible apply From.drew | with_reducible apply From.alloc))) hS⟩
end Go.Proofs.Ytlomanhmpbapeaa
