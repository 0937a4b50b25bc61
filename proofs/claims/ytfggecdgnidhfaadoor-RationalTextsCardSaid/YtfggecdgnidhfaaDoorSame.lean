/- The walks of the comparison of lists of limbs, and of the look at lengths. More words for memory: a make of limbs; an own row stored into, in the walk's spelling. -/
import Derived.Test.YtfggecdgnidhfaaDoorForms
namespace Go.Proofs.YtfggecdgnidhfaaDoor
open Go.RowKit

theorem eq_of_lims {l m : List Nat} (h : l.length = m.length) (hj : ∀ j, j < l.length → lim l j = lim m j) : l = m := by
  refine List.ext_getElem h fun i h1 h2 => ?_
  have := hj i h1
  rw [lim_eq, lim_eq, List.getElem?_eq_getElem h1, List.getElem?_eq_getElem h2] at this
  simpa using this

set_option maxHeartbeats 400000 in
theorem rsame_any (A : Option Addr) (n c : Nat) (l : List Nat) (B : Option Addr) (m d : Nat) (k : List Nat) (w : World) (h : Rd w A n c l) (h' : Rd w B m d k) :
    Calls Tryd.prog 28 #[.slice A n c, .slice B m d] w (Makes (.bool (decide (l = k))) w) := by
  have h63 := h.le63
  by_cases hne : n = m
  · subst hne
    go_enter Tryd.func28, Tryd.ntmps28
    go_wp2
    go_loopw [5] (fun i wr => ∃ j : Nat, j ≤ n ∧ i = .int .i64 (j : Int) ∧ Below w.heap.size w wr ∧ ∀ t, t < j → lim l t = lim k t) (fun i _ => n - (intOf i).toNat)
    case atStart => exact ⟨0, Nat.zero_le _, rfl, Below.refl _ _, fun t ht => absurd ht (by omega)⟩
    case round =>
      obtain ⟨j, hj, rfl, hS, hall⟩ := hrel
      have HA := hide hall
      clear hall
      by_cases hlt : j < n
      · obtain ⟨b, off, rfl, hb, hcell⟩ := (h.below hS).at hlt
        obtain ⟨b', off', rfl, hb', hcell'⟩ := (h'.below hS).at hlt
        have hi : (j : Int) < (n : Int) := by omega
        by_cases heq : lim l j = lim k j
        · have hn0 : ((lim l j : Int) != (lim k j : Int)) = false := by simp; omega
          have HQ := hide heq
          clear heq
          go_wp2
          go_quiet (fail)
          go_wp2
          go_roundw
          case rel => exact ⟨j + 1, by omega, by go_num, below_drewN hS _, fun t ht => by
            rcases Nat.lt_or_ge t j with h1 | h1
            · exact HA.out t h1
            · obtain rfl : t = j := by omega
              exact HQ.out⟩
          case measure => simp [intOf]; omega
        · have hn1 : ((lim l j : Int) != (lim k j : Int)) = true := by simp; omega
          have hf : decide (l = k) = false := by
            rw [decide_eq_false_iff_not]
            rintro rfl
            exact heq rfl
          have HF := hide hf
          clear hf
          go_wp2
          go_quiet (fail)
          go_wp2
          go_ret
          rw [HF.out]
          exact ⟨rfl, below_drewN hS _⟩
      · have hf : decide (l = k) = true := by
          rw [decide_eq_true_eq]
          refine eq_of_lims (h.len.trans h'.len.symm) fun t ht => HA.out t ?_
          have := h.len
          omega
        have HF := hide hf
        clear hf
        go_wp2
        go_ret
        rw [HF.out]
        exact ⟨rfl, hS⟩
  · have hn1 : ((n : Int) != (m : Int)) = true := by simp; omega
    have hf : decide (l = k) = false := by
      rw [decide_eq_false_iff_not]
      rintro rfl
      exact hne (h.len.symm.trans h'.len)
    have HF := hide hf
    clear hf
    go_enter Tryd.func28, Tryd.ntmps28
    go_wp2
    go_ret
    rw [HF.out]
    exact ⟨rfl, Below.refl _ _⟩

set_option maxHeartbeats 400000 in
theorem same_any (A : Option Addr) (n c : Nat) (l : List Nat) (B : Option Addr) (m d : Nat) (k : List Nat) (w : World) (h : Rd w A n c l) (h' : Rd w B m d k) :
    Calls Tryd.prog 10 #[.slice A n c, .slice B m d] w (Makes (.bool (decide (l = k))) w) := by
  go_enter Tryd.func10, Tryd.ntmps10
  go_wp2_with fail
  refine (rsame_any A n c l B m d k _ h h').mono ?_
  rintro e w1 ⟨rfl, hb⟩
  go_wp2
  go_ret
  exact ⟨rfl, hb⟩

/-- The slice value '.slice A n c' holds slices that read as the lists of limbs ll. -/
structure RdL (w : World) (A : Option Addr) (n c : Nat) (ll : List (List Nat)) : Prop where
  len : ll.length = n
  cap : n ≤ c
  max : c ≤ maxLen
  cells : 0 < n → ∃ b off, A = some ⟨b, off, none⟩ ∧ b < w.heap.size ∧ ∀ j, j < n → ∃ Aj nj cj, w.cell? ⟨b, off + j, none⟩ = some (.slice Aj nj cj) ∧ Rd w Aj nj cj (ll.getD j [])

section
variable {w w' : World} {A : Option Addr} {n c : Nat} {ll : List (List Nat)}
theorem RdL.le63 (h : RdL w A n c ll) : n ≤ 9223372036854775807 := by
  have := h.cap; have := h.max; unfold maxLen at this; omega
theorem RdL.at (h : RdL w A n c ll) {k : Nat} (hk : k < n) : ∃ b off Aj nj cj, A = some ⟨b, off, none⟩ ∧ b < w.heap.size ∧ w.cell? ⟨b, off + k, none⟩ = some (.slice Aj nj cj) ∧ Rd w Aj nj cj (ll.getD k []) := by
  obtain ⟨b, off, e, hb, hc⟩ := h.cells (by omega)
  obtain ⟨Aj, nj, cj, h1, h2⟩ := hc k hk
  exact ⟨b, off, Aj, nj, cj, e, hb, h1, h2⟩
theorem RdL.below (h : RdL w A n c ll) (hb : Below w.heap.size w w') : RdL w' A n c ll :=
  ⟨h.len, h.cap, h.max, fun hn => by
    obtain ⟨b, off, e, hlt, hc⟩ := h.cells hn
    refine ⟨b, off, e, Nat.lt_of_lt_of_le hlt hb.size, fun j hj => ?_⟩
    obtain ⟨Aj, nj, cj, h1, h2⟩ := hc j hj
    exact ⟨Aj, nj, cj, (hb.cell (p := ⟨b, off + j, none⟩) hlt).trans h1, h2.below hb⟩⟩
end

theorem RdL.nil (w : World) : RdL w none 0 0 [] := ⟨rfl, Nat.le_refl _, Nat.zero_le _, fun h => absurd h (by omega)⟩
theorem getD_cons_zero {l : List Nat} {ll : List (List Nat)} : (l :: ll).getD 0 [] = l := rfl
theorem getD_cons_succ {l : List Nat} {ll : List (List Nat)} {k : Nat} : (l :: ll).getD (k + 1) [] = ll.getD k [] := by simp [List.getD_eq_getElem?_getD]
/-- Lists that are written out. -/
theorem rdl_one {w : World} {A : Option Addr} {n c : Nat} {l : List Nat} (e : TypeId) (h : Rd w A n c l) :
    RdL (w.alloc (.cells #[.slice A n c] e)) (some ⟨w.heap.size, 0, none⟩) 1 1 [l] := by
  refine ⟨rfl, Nat.le_refl _, by decide, fun _ => ⟨w.heap.size, 0, rfl, by simp, fun j hj => ?_⟩⟩
  obtain rfl : j = 0 := by omega
  exact ⟨A, n, c, by rw [cell_of_row _ _ _ _ _ _ (heap_alloc_new w _)]; rfl, h.below (below_alloc w _)⟩
theorem rdl_two {w : World} {A B : Option Addr} {n c m d : Nat} {l k : List Nat} (e : TypeId) (h : Rd w A n c l) (h' : Rd w B m d k) :
    RdL (w.alloc (.cells #[.slice A n c, .slice B m d] e)) (some ⟨w.heap.size, 0, none⟩) 2 2 [l, k] := by
  refine ⟨rfl, Nat.le_refl _, by decide, fun _ => ⟨w.heap.size, 0, rfl, by simp, fun j hj => ?_⟩⟩
  rcases (show j = 0 ∨ j = 1 by omega) with rfl | rfl
  · exact ⟨A, n, c, by rw [cell_of_row _ _ _ _ _ _ (heap_alloc_new w _)]; rfl, h.below (below_alloc w _)⟩
  · exact ⟨B, m, d, by rw [cell_of_row _ _ _ _ _ _ (heap_alloc_new w _)]; rfl, h'.below (below_alloc w _)⟩
theorem rdl_three {w : World} {A B C : Option Addr} {n c m d p q : Nat} {l k t : List Nat} (e : TypeId) (h : Rd w A n c l) (h' : Rd w B m d k) (h'' : Rd w C p q t) :
    RdL (w.alloc (.cells #[.slice A n c, .slice B m d, .slice C p q] e)) (some ⟨w.heap.size, 0, none⟩) 3 3 [l, k, t] := by
  refine ⟨rfl, Nat.le_refl _, by decide, fun _ => ⟨w.heap.size, 0, rfl, by simp, fun j hj => ?_⟩⟩
  rcases (show j = 0 ∨ j = 1 ∨ j = 2 by omega) with rfl | rfl | rfl
  · exact ⟨A, n, c, by rw [cell_of_row _ _ _ _ _ _ (heap_alloc_new w _)]; rfl, h.below (below_alloc w _)⟩
  · exact ⟨B, m, d, by rw [cell_of_row _ _ _ _ _ _ (heap_alloc_new w _)]; rfl, h'.below (below_alloc w _)⟩
  · exact ⟨C, p, q, by rw [cell_of_row _ _ _ _ _ _ (heap_alloc_new w _)]; rfl, h''.below (below_alloc w _)⟩

theorem same_yes (A : Option Addr) (n c : Nat) (l : List Nat) (B : Option Addr) (m d : Nat) (w : World) (h : Rd w A n c l) (h' : Rd w B m d l) :
    Calls Tryd.prog 10 #[.slice A n c, .slice B m d] w (Makes (.bool true) w) := by
  have := same_any A n c l B m d l w h h'
  simpa using this

/-- Is one of the lists longer than that? -/
def anyLong (most : Nat) (ll : List (List Nat)) : Bool := ll.any fun l => decide (most < l.length)

theorem anyLong_false {most : Nat} {ll : List (List Nat)} (h : anyLong most ll = false) : ∀ l ∈ ll, l.length ≤ most := by
  intro l hl
  unfold anyLong at h
  rw [List.any_eq_false] at h
  have := h l hl
  simp at this
  exact this

theorem madeCells_u32 (n : Nat) : (madeCells (Value.cells (.int .u32 0)) n).toList = u32s (List.replicate n 0) := by
  rw [u32s_zeros]
  apply List.ext_getElem
  · simp [madeCells]
  · intro i h1 h2
    simp [madeCells, Value.cells, Nat.mod_one]

section
variable {P : Program} (w : World)
theorem wpList_make_rd {ops : Array Oper} {rest : List Oper} {o : Oper} {a : Act} {Q : Exit → Act → World → Prop}
    (hg : o.guard = none) (l c : Operand) (t e : TypeId) (hop : o.op = Op.makeSlice t l c) (i : TypeInfo)
    (h1 : P.underlying t = some (.slice e)) (h2 : P.info? e = some i) (h3 : i.zero = some (.int .u32 0)) (h4 : i.size = 1) (h5 : i.bytes = 4)
    (kl kc : IntKind) (L C : Int) (n : Nat) (hl : a.eval l = .int kl L) (hc : a.eval c = .int kc C) (hL : L = (n : Int)) (hC : C = (n : Int)) (hn : n ≤ 2147483648)
    (hK : ∀ w', Own w' w.heap.size e (some ⟨w.heap.size, 0, none⟩) n n (List.replicate n 0) → Below w.heap.size w w' → wpList P ops Q rest (a.put o.dst (.slice (some ⟨w.heap.size, 0, none⟩) n n)) w') :
    wpList P ops Q (o :: rest) a w := by
  refine wpList_plain hg fun K hK' => ?_
  obtain ⟨w', hrun, r1, r2⟩ := run_make_full (P := P) w w.heap.size t e i (.int .u32 0) 1 h1 h2 h3 h4 kl kc n (by rw [h5]; omega) (by unfold maxLen; omega) (Nat.le_refl _)
  subst hC
  subst hL
  unfold Oper.wp
  simp [execOp, hop, hl, hc, hrun, Result.andThen]
  refine hK' _ _ (hK w' ⟨?_, Lims.replicate n⟩ ((Below.refl _ _).grown r2 (Nat.le_refl _) (fun k hk => by cases hk)))
  rw [← madeCells_u32]
  simpa using r1
end

/-- A store into an own row, the limb as the walk writes it. -/
theorem Own.setInt {w : World} {base : Nat} {e : TypeId} {g n c : Nat} {l : List Nat} (h : Own w base e (some ⟨g, 0, none⟩) n c l) (k : Nat) {x : Nat} {z : Int} (hx : x < 4294967296) (hz : z = (x : Int)) :
    Own (w.setCell ⟨g, k, none⟩ (.int .u32 z)) base e (some ⟨g, 0, none⟩) n c (l.set k x) := by
  subst hz
  exact h.set k hx

theorem Own.drewN {w : World} {base : Nat} {e : TypeId} {A : Option Addr} {n c : Nat} {l : List Nat} (h : Own w base e A n c l) (k : Nat) : Own (w.drewN k) base e A n c l := ⟨h.row, h.lims⟩
theorem Rd.drewN {w : World} {A : Option Addr} {n c : Nat} {l : List Nat} (h : Rd w A n c l) (k : Nat) : Rd (w.drewN k) A n c l := ⟨h.len, h.cap, h.max, h.lims, h.cells⟩
end Go.Proofs.YtfggecdgnidhfaaDoor
