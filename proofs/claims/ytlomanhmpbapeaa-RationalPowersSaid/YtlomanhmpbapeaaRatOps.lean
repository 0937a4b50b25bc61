/- The walks of the rational operations. -/
import Derived.Test.YtlomanhmpbapeaaRat
import Derived.Test.YtlomanhmpbapeaaSemi
import Derived.Deep.CutRange
import Derived.Deep.RegionHeld3
namespace Go.Proofs.Ytlomanhmpbapeaa
open Go.RowKit

/-- A struct variable of a rational, in block g. -/
def BoxQ (w : World) (g : Nat) (s : Bool) (A : Option Addr) (n c : Nat) (B : Option Addr) (m d : Nat) : Prop :=
  w.heap[g]? = some (.cells #[.bool s, .slice A n c, .slice B m d] 25) ∧ g < w.heap.size
section
variable {w w' W : World} {s : Bool} {A B : Option Addr} {n c m d K g : Nat} {q : Rat} {l k : List Nat}
theorem BoxQ.new (w : World) (s : Bool) (A : Option Addr) (n c : Nat) (B : Option Addr) (m d : Nat) : BoxQ (w.alloc (.cells #[.bool s, .slice A n c, .slice B m d] 25)) w.heap.size s A n c B m d := ⟨heap_alloc_new w _, by simp⟩
theorem BoxQ.below (h : BoxQ w g s A n c B m d) (hb : Below w.heap.size w w') : BoxQ w' g s A n c B m d := ⟨(hb.block g h.2).trans h.1, Nat.lt_of_lt_of_le h.2 hb.size⟩
theorem BoxQ.later (h : BoxQ W g s A n c B m d) (hb : From W w') : BoxQ w' g s A n c B m d := h.below hb
theorem BoxQ.cells (h : BoxQ w g s A n c B m d) : w.cell? ⟨g, 0, none⟩ = some (.bool s) ∧ w.cell? ⟨g, 1, none⟩ = some (.slice A n c) ∧ w.cell? ⟨g, 2, none⟩ = some (.slice B m d) := by
  refine ⟨?_, ?_, ?_⟩ <;> (rw [cell_of_row _ _ _ _ _ _ h.1]; rfl)
theorem BoxQ.free (h : BoxQ w g s A n c B m d) : w.frozen? ⟨g, 0, none⟩ = false ∧ w.frozen? ⟨g, 1, none⟩ = false ∧ w.frozen? ⟨g, 2, none⟩ = false := by
  simp [World.frozen?, h.1]
theorem BoxQ.noNum (h : BoxQ w g s A n c B m d) : NoNum w g := .of h.1
theorem From.alloc (h : From W w) (o : Obj) : From W (w.alloc o) := h.step (below_alloc w o)
theorem RdL.up {ll : List (List Nat)} (hb : Below w.heap.size w w') (h : RdL w A n c ll) : RdL w' A n c ll := h.below hb
theorem RdL.upAlloc {ll : List (List Nat)} {o : Obj} (h : RdL w A n c ll) : RdL (w.alloc o) A n c ll := h.below (below_alloc w o)
theorem Rd.upAlloc {o : Obj} (h : Rd w A n c l) : Rd (w.alloc o) A n c l := h.below (below_alloc w o)
theorem RdL.drew {ll : List (List Nat)} (h : RdL w A n c ll) : RdL w.drew A n c ll :=
  ⟨h.len, h.cap, h.max, fun hn => by
    obtain ⟨b, off, e, hlt, hc⟩ := h.cells hn
    refine ⟨b, off, e, hlt, fun j hj => ?_⟩
    obtain ⟨Aj, nj, cj, h1, h2⟩ := hc j hj
    exact ⟨Aj, nj, cj, h1, h2.drew⟩⟩
theorem rdl_two' {g : Nat} (hg : g = w.heap.size) (h : Rd w A n c l) (h' : Rd w B m d k) : RdL (w.alloc (.cells #[.slice A n c, .slice B m d] 23)) (some ⟨g, 0, none⟩) 2 2 [l, k] := by
  subst hg; exact rdl_two 23 h h'
/-- Only block g may have been written, of the blocks of W. -/
def Only (g : Nat) (W w' : World) : Prop := W.grownBy w' (some g)
theorem From.only {g : Nat} (h : From W w) : Only g W w := ⟨h.os, h.tape, h.output, h.size, fun i hi _ => h.block i hi⟩
theorem Only.drew (h : Only g W w) : Only g W w.drew := ⟨h.os, h.tape, h.output, h.size, h.block⟩
theorem Only.alloc {o : Obj} (h : Only g W w) : Only g W (w.alloc o) :=
  ⟨h.os, h.tape, h.output, Nat.le_trans h.size (by simp), fun i hi hne => (Below.heap_alloc w o i (Nat.lt_of_lt_of_le hi h.size)).trans (h.block i hi hne)⟩
theorem Only.set {k' : Nat} {u : Value} (h : Only g W w) : Only g W (w.setCell ⟨g, k', none⟩ u) := only_setCell h u
theorem Only.bel {b : Nat} (h : Only g W w) {w0 : World} (hb : Below b w0 W) (h1 : b ≤ W.heap.size) (h2 : b ≤ g) : Below b w0 w := hb.grown h h1 (fun k hk => by injection hk with hk; omega)
theorem BoxQ.only {g' : Nat} (h : BoxQ W g s A n c B m d) (ho : Only g' W w') (hne : g ≠ g') : BoxQ w' g s A n c B m d := ⟨(ho.block g h.2 (by simpa using hne)).trans h.1, Nat.lt_of_lt_of_le h.2 ho.size⟩
theorem CanQ.drew (h : CanQ w A n c B m d q K) : CanQ w.drew A n c B m d q K := ⟨h.num.drew, h.den.drew, h.hn, h.hm⟩
theorem CanQ.store3 {a b e : Value} (h : CanQ w A n c B m d q K) (hno : NoNum w g) : CanQ (((w.setCell ⟨g, 0, none⟩ a).setCell ⟨g, 1, none⟩ b).setCell ⟨g, 2, none⟩ e) A n c B m d q K := h.far (only3 w g a b e) hno
theorem Rd.store3 {a b e : Value} (h : Rd w A n c l) (hno : NoNum w g) : Rd (((w.setCell ⟨g, 0, none⟩ a).setCell ⟨g, 1, none⟩ b).setCell ⟨g, 2, none⟩ e) A n c l := h.far (only3 w g a b e) hno
theorem CanQ.upAlloc {o : Obj} (h : CanQ w A n c B m d q K) : CanQ (w.alloc o) A n c B m d q K := h.below (below_alloc w o)
theorem RawQ.drew (h : RawQ w s A n c B m d q K) : RawQ w.drew s A n c B m d q K := by
  obtain ⟨⟨ln, ld, h1, h2, h3⟩, hn, hm⟩ := h
  exact ⟨⟨ln, ld, h1.drew, h2.drew, h3⟩, hn, hm⟩
theorem RawQ.upAlloc {o : Obj} (h : RawQ w s A n c B m d q K) : RawQ (w.alloc o) s A n c B m d q K := h.below (below_alloc w o)
theorem canonical_eq {r : Rat} (h : Rd w A n c l) (h' : Rd w B m d k) (e : ratOf s (val l) (val k) = r) (hn : n ≤ K) (hm : m ≤ K) (hK1 : 1 ≤ K) (hK : K ≤ 10000) :
    Calls Try.prog 57 #[.bool s, .slice A n c, .slice B m d] w (RetQ r K w) := by
  subst e
  exact canonical_any s A n c l B m d k w h h' K hn hm hK1 hK
theorem plus_same {s : Bool} {p q : Rat} (hs : s = qneg p) (ht : s = qneg q) : ratOf s (p.num.natAbs * q.den + q.num.natAbs * p.den) (p.den * q.den) = p + q := by
  rw [ratOf_add_same s _ _ p.den_nz q.den_nz]
  conv => lhs; arg 1; rw [hs, ratOf_self]
  rw [ht, ratOf_self]
theorem plus_left {s t : Bool} {p q : Rat} (hs : s = qneg p) (ht : t = qneg q) (hne : s ≠ t) (h : q.num.natAbs * p.den ≤ p.num.natAbs * q.den) : ratOf s (p.num.natAbs * q.den - q.num.natAbs * p.den) (p.den * q.den) = p + q := by
  rw [ratOf_add_left s _ _ p.den_nz q.den_nz h]
  have e : (!s) = t := by cases s <;> cases t <;> simp_all
  rw [e]
  conv => lhs; arg 1; rw [hs, ratOf_self]
  rw [ht, ratOf_self]
theorem plus_right {s t : Bool} {p q : Rat} (hs : s = qneg p) (ht : t = qneg q) (hne : s ≠ t) (h : p.num.natAbs * q.den ≤ q.num.natAbs * p.den) : ratOf t (q.num.natAbs * p.den - p.num.natAbs * q.den) (p.den * q.den) = p + q := by
  have e : (!s) = t := by cases s <;> cases t <;> simp_all
  rw [← e, ratOf_add_right s _ _ p.den_nz q.den_nz h]
  conv => lhs; arg 1; rw [hs, ratOf_self]
  rw [e, ht, ratOf_self]
theorem mulL {a b : Nat} (h : RdL w A 2 2 [l, k]) (hl : l.length ≤ a) (hk : k.length ≤ b) (ha : a ≤ 100000) (hb : b ≤ 100000) :
    Calls Try.prog 65 #[.slice A 2 2] w (RetB (val l * val k) (a + b) w) := by
  have hlm := h.lims
  refine (mul_any A 2 2 _ w h 100000 (fun x hx => ?_) (by omega) (by omega)).mono ?_
  · simp at hx
    rcases hx with rfl | rfl <;> omega
  · intro e w' hr
    have hv : prodV [l, k] = val l * val k := by simp [prodV]
    rw [hv] at hr
    exact hr.b (mul_lt_pow (Nat.lt_of_lt_of_le (val_lt (hlm l (by simp))) (pow_le_pow_limb hl)) (Nat.lt_of_lt_of_le (val_lt (hlm k (by simp))) (pow_le_pow_limb hk)))
theorem addL {a : Nat} (h : RdL w A 2 2 [l, k]) (hl : l.length ≤ a) (hk : k.length ≤ a) (ha : a ≤ 100000) :
    Calls Try.prog 75 #[.slice A 2 2] w (RetB (val l + val k) (a + 1) w) := by
  have hlm := h.lims
  refine (add_any A 2 2 _ w h 100000 (fun x hx => ?_) (by omega) (by omega)).mono ?_
  · simp at hx
    rcases hx with rfl | rfl <;> omega
  · intro e w' hr
    have hv : sumV [l, k] = val l + val k := by simp [sumV]
    rw [hv] at hr
    refine hr.b ?_
    have h1 := Nat.lt_of_lt_of_le (val_lt (hlm l (by simp))) (pow_le_pow_limb hl)
    have h2 := Nat.lt_of_lt_of_le (val_lt (hlm k (by simp))) (pow_le_pow_limb hk)
    rw [Nat.pow_succ]
    omega
end

set_option maxHeartbeats 8000000 in
theorem qplus_any (w : World) (A1 : Option Addr) (n1 c1 : Nat) (B1 : Option Addr) (m1 d1 : Nat) (p : Rat) (K : Nat) (A2 : Option Addr) (n2 c2 : Nat) (B2 : Option Addr) (m2 d2 : Nat) (q : Rat) (L : Nat)
    (h : CanQ w A1 n1 c1 B1 m1 d1 p K) (h' : CanQ w A2 n2 c2 B2 m2 d2 q L) (hK : K ≤ 1000) (hL : L ≤ 1000) :
    Calls Try.prog 69 #[.agg #[.bool (qneg p), .slice A1 n1 c1, .slice B1 m1 d1], .agg #[.bool (qneg q), .slice A2 n2 c2, .slice B2 m2 d2]] w (RetQ (p + q) (K + L + 1) w) := by
  obtain ⟨s, hs⟩ : ∃ s, s = qneg p := ⟨_, rfl⟩
  obtain ⟨t, ht⟩ : ∃ t, t = qneg q := ⟨_, rfl⟩
  rw [← hs, ← ht]
  obtain ⟨W, hW⟩ : ∃ W, W = ((w.alloc (.cells #[.bool s, .slice A1 n1 c1, .slice B1 m1 d1] 25)).alloc (.cells #[.bool t, .slice A2 n2 c2, .slice B2 m2 d2] 25)).alloc (.cells #[.bool false, .slice none 0 0, .slice none 0 0] 25) := ⟨_, rfl⟩
  have hS : Below w.heap.size w W := by rw [hW]; exact (((Below.refl _ _).alloc (Nat.le_refl _) _).alloc (by simp) _).alloc (by simp; omega) _
  have q1 : BoxQ W w.heap.size s A1 n1 c1 B1 m1 d1 := by rw [hW]; exact ((BoxQ.new w _ _ _ _ _ _ _).below (below_alloc _ _)).below (below_alloc _ _)
  have q2 : BoxQ W (w.heap.size + 1) t A2 n2 c2 B2 m2 d2 := by
    rw [hW]
    have := ((BoxQ.new (w.alloc (.cells #[.bool s, .slice A1 n1 c1, .slice B1 m1 d1] 25)) t A2 n2 c2 B2 m2 d2).below (below_alloc _ (.cells #[.bool false, .slice none 0 0, .slice none 0 0] 25)))
    simpa using this
  have q3 : BoxQ W (w.heap.size + 1 + 1) false none 0 0 none 0 0 := by
    rw [hW]
    have := BoxQ.new ((w.alloc (.cells #[.bool s, .slice A1 n1 c1, .slice B1 m1 d1] 25)).alloc (.cells #[.bool t, .slice A2 n2 c2, .slice B2 m2 d2] 25)) false none 0 0 none 0 0
    simpa using this
  have e1 := (h.below hS).num
  have e2 := (h.below hS).den
  have e3 := (h'.below hS).num
  have e4 := (h'.below hS).den
  have l1 : (limbs p.num.natAbs).length ≤ K := by rw [e1.len]; exact h.hn
  have l2 : (limbs p.den).length ≤ K := by rw [e2.len]; exact h.hm
  have l3 : (limbs q.num.natAbs).length ≤ L := by rw [e3.len]; exact h'.hn
  have l4 : (limbs q.den).length ≤ L := by rw [e4.len]; exact h'.hm
  have hK1 : 1 ≤ K := by
    have := limbs_len_pos p.den_nz
    omega
  have Q1 := hide q1
  have Q2 := hide q2
  have Q3 := hide q3
  have HW := hide hW
  have HSG := hide hs
  have HTG := hide ht
  clear hW q1 q2 q3 h h' hs ht
  go_enter Try.func69, Try.ntmps69
  go_wp2_with fail
  rw [← HW.out]
  have hF := From.refl W
  have hc1 := Q1.out.cells
  have hc2 := Q2.out.cells
  go_cut [5, 6] from 10 to 21 (fun v5 v6 wx => ∃ A5 n5 c5 A6 n6 c6, v5 = .slice A5 n5 c5 ∧ v6 = .slice A6 n6 c6 ∧ Rd wx A5 n5 c5 (limbs (p.num.natAbs * q.den)) ∧ Rd wx A6 n6 c6 (limbs (q.num.natAbs * p.den)) ∧ n5 ≤ K + L ∧ n6 ≤ L + K ∧ From W wx)
  case first =>
    go_region_held3 (fun w' => From W w' ∧ w'.cell? ⟨w.heap.size, 1, none⟩ = some (.slice A1 n1 c1) ∧ w'.cell? ⟨w.heap.size, 2, none⟩ = some (.slice B1 m1 d1) ∧ w'.cell? ⟨w.heap.size + 1, 1, none⟩ = some (.slice A2 n2 c2) ∧ w'.cell? ⟨w.heap.size + 1, 2, none⟩ = some (.slice B2 m2 d2))
      ((go_split_ands; exact ⟨(by repeat (first | with_reducible assumption | with_reducible apply From.drew | with_reducible apply From.alloc)), (Q1.out.later (by repeat (first | with_reducible assumption | with_reducible apply From.drew | with_reducible apply From.alloc))).cells.2.1, (Q1.out.later (by repeat (first | with_reducible assumption | with_reducible apply From.drew | with_reducible apply From.alloc))).cells.2.2, (Q2.out.later (by repeat (first | with_reducible assumption | with_reducible apply From.drew | with_reducible apply From.alloc))).cells.2.1, (Q2.out.later (by repeat (first | with_reducible assumption | with_reducible apply From.drew | with_reducible apply From.alloc))).cells.2.2⟩))
      (first
      | (go_at_call 65; refine (mulL (by repeat (first | with_reducible assumption | with_reducible apply Rd.drew | with_reducible apply Rd.upAlloc | ((with_reducible apply Rd.up); (with_reducible assumption)) | with_reducible apply RdL.drew | (apply rdl_two'; focus (simp; done)) | with_reducible apply RdL.upAlloc | ((with_reducible apply RdL.up); (with_reducible assumption)))) (by assumption) (by assumption) (by omega) (by omega)).mono ?_; rintro e w' ⟨A', n', c', rfl, h', hb', hn'⟩; go_split_ands; have hF' : From W w' := From.step (by repeat (first | with_reducible assumption | with_reducible apply From.drew | with_reducible apply From.alloc)) hb'; simp only [val_limbs] at h'))
    all_goals
      go_wp2
      go_meet
      case rel => exact ⟨_, _, _, _, _, _, rfl, rfl, (by repeat (first | with_reducible assumption | with_reducible apply Rd.drew | with_reducible apply Rd.upAlloc | ((with_reducible apply Rd.up); (with_reducible assumption)))), (by repeat (first | with_reducible assumption | with_reducible apply Rd.drew | with_reducible apply Rd.upAlloc | ((with_reducible apply Rd.up); (with_reducible assumption)))), by assumption, by assumption, (by repeat (first | with_reducible assumption | with_reducible apply From.drew | with_reducible apply From.alloc))⟩
  case rest =>
    obtain ⟨A5, n5, c5, A6, n6, c6, rfl, rfl, h5, h6, hn5, hn6, hF1⟩ := hcut
    clear hc1 hc2
    have hb1 := hF1.out
    have hc1 := (Q1.out.later hF1).cells
    have hc2 := (Q2.out.later hF1).cells
    have l5 : (limbs (p.num.natAbs * q.den)).length ≤ K + L := by rw [h5.len]; exact hn5
    have l6 : (limbs (q.num.natAbs * p.den)).length ≤ K + L := by rw [h6.len]; omega
    go_wp2_with fail
    refine (mulL (by repeat (first | with_reducible assumption | with_reducible apply Rd.drew | with_reducible apply Rd.upAlloc | ((with_reducible apply Rd.up); (with_reducible assumption)) | with_reducible apply RdL.drew | (apply rdl_two'; focus (simp; done)) | with_reducible apply RdL.upAlloc | ((with_reducible apply RdL.up); (with_reducible assumption)))) l2 l4 (by omega) (by omega)).mono ?_
    rintro e w4 ⟨A7, n7, c7, rfl, h7, hb4, hn7⟩
    simp only [val_limbs] at h7
    have hF4 : From W w4 := From.step (by repeat (first | with_reducible assumption | with_reducible apply From.drew | with_reducible apply From.alloc)) hb4
    replace h5 := Rd.up hb4 (Rd.upAlloc h5)
    replace h6 := Rd.up hb4 (Rd.upAlloc h6)
    clear hc1 hc2 hb1
    have hc1 := (Q1.out.later hF4).cells
    have hc2 := (Q2.out.later hF4).cells
    have hb4' := hF4.out
    clear hb4 hF1 hF
    by_cases hst : s = t
    · subst hst
      have HE := hide (plus_same HSG.out HTG.out)
      go_wp2_with fail
      go_region_held3 (fun w' => Only (w.heap.size + 1 + 1) W w' ∧ w'.cell? ⟨w.heap.size, 0, none⟩ = some (.bool s))
        ((go_split_ands; exact ⟨(by repeat (first | with_reducible assumption | with_reducible apply Only.set | with_reducible apply Only.drew | with_reducible apply Only.alloc | ((with_reducible apply From.only); (repeat (first | with_reducible assumption | with_reducible apply From.drew | with_reducible apply From.alloc))))), (BoxQ.only (g' := w.heap.size + 1 + 1) Q1.out (by repeat (first | with_reducible assumption | with_reducible apply Only.set | with_reducible apply Only.drew | with_reducible apply Only.alloc | ((with_reducible apply From.only); (repeat (first | with_reducible assumption | with_reducible apply From.drew | with_reducible apply From.alloc))))) (by omega)).cells.1⟩))
        (first
        | (go_at_call 75; refine (addL (a := K + L) (by repeat (first | with_reducible assumption | with_reducible apply Rd.drew | with_reducible apply Rd.upAlloc | ((with_reducible apply Rd.up); (with_reducible assumption)) | with_reducible apply RdL.drew | (apply rdl_two'; focus (simp; done)) | with_reducible apply RdL.upAlloc | ((with_reducible apply RdL.up); (with_reducible assumption)))) (by assumption) (by assumption) (by omega)).mono ?_; rintro e w' ⟨A', n', c', rfl, h', hb', hn'⟩; go_split_ands; have hF' : From W w' := From.step (by repeat (first | with_reducible assumption | with_reducible apply From.drew | with_reducible apply From.alloc)) hb'; simp only [val_limbs] at h')
        | (go_at_call 57; refine (canonical_eq (K := K + L + 1) (by repeat (first | with_reducible assumption | with_reducible apply Rd.drew | with_reducible apply Rd.upAlloc | ((with_reducible apply Rd.up); (with_reducible assumption)))) (by repeat (first | with_reducible assumption | with_reducible apply Rd.drew | with_reducible apply Rd.upAlloc | ((with_reducible apply Rd.up); (with_reducible assumption)))) (by simpa only [val_limbs] using HE.out) (by omega) (by omega) (by omega) (by omega)).mono ?_; rintro e w' ⟨A', n', c', B', m', d', rfl, hcan, hb'⟩; go_split_ands; have hF' : From W w' := From.step (by repeat (first | with_reducible assumption | with_reducible apply From.drew | with_reducible apply From.alloc)) hb'; have hno := (Q3.out.later hF').noNum; have hcg := (Q3.out.later hF').cells; have hfg := (Q3.out.later hF').free))
      go_wp2
      exact bodyPost_ret (v := .agg #[.bool (qneg (p + q)), .slice A' n' c', .slice B' m' d']) (by simp [results, Try.results69, go_sem, hcg]) rfl ⟨A', n', c', B', m', d', rfl, (by repeat (first | with_reducible assumption | with_reducible apply CanQ.drew | ((with_reducible apply CanQ.store3); (focus assumption)))), Only.bel (g := w.heap.size + 1 + 1) (by repeat (first | with_reducible assumption | with_reducible apply Only.set | with_reducible apply Only.drew | with_reducible apply Only.alloc | ((with_reducible apply From.only); (repeat (first | with_reducible assumption | with_reducible apply From.drew | with_reducible apply From.alloc))))) hS hS.size (by omega)⟩
    · have hsb : (s == t) = false := by simp; exact hst
      have hcall := cmp_any _ _ _ _ _ _ _ _ _ h5 h6
      rw [val_limbs, val_limbs] at hcall
      have hz3 := (Q3.out.later hF4).2
      by_cases hlt : p.num.natAbs * q.den < q.num.natAbs * p.den
      · rw [cmpV_lt hlt] at hcall
        have HE := hide (plus_right HSG.out HTG.out hst (Nat.le_of_lt hlt))
        have HNL : Hid (¬ q.num.natAbs * p.den < p.num.natAbs * q.den) := by unfold Hid; omega
        clear hst hlt
        go_wp2_with fail
        refine hcall.mono ?_
        rintro e w5 ⟨rfl, hb5⟩
        have hF5 : From W w5 := From.step hF4 hb5
        replace h5 := h5.below hb5
        replace h6 := h6.below hb5
        replace h7 := h7.below hb5
        clear hc1 hc2 hcall hsb
        have hc1 := (Q1.out.later hF5).cells
        have hc2 := (Q2.out.later hF5).cells
        have hf1 := (Q1.out.later hF5).free
        have hno := (Q1.out.later hF5).noNum
        go_wp2_with fail
        go_cut [5, 6] from 45 to 47 (fun v5 v6 wx => v5 = .slice A6 n6 c6 ∧ v6 = .slice A5 n5 c5 ∧ wx.cell? ⟨w.heap.size, 0, none⟩ = some (.bool t) ∧ Only w.heap.size W wx ∧ Rd wx A5 n5 c5 (limbs (p.num.natAbs * q.den)) ∧ Rd wx A6 n6 c6 (limbs (q.num.natAbs * p.den)) ∧ Rd wx A7 n7 c7 (limbs (p.den * q.den)))
        case first =>
          go_region
          all_goals
            go_wp2
            go_meet
            case rel => exact ⟨rfl, rfl, by simp [go_sem, hc1], (by repeat (first | with_reducible assumption | with_reducible apply Only.set | with_reducible apply Only.drew | with_reducible apply Only.alloc | ((with_reducible apply From.only); (repeat (first | with_reducible assumption | with_reducible apply From.drew | with_reducible apply From.alloc))))), (Rd.store3 h5 hno).drew, (Rd.store3 h6 hno).drew, (Rd.store3 h7 hno).drew⟩
        case rest =>
          obtain ⟨rfl, rfl, hcell, hon, h5, h6, h7⟩ := hcut
          have hV := hon.bel (g := w.heap.size) hS hS.size (Nat.le_refl _)
          have q3V : BoxQ wc (w.heap.size + 1 + 1) false none 0 0 none 0 0 := BoxQ.only (g' := w.heap.size) Q3.out hon (by omega)
          clear hc1 hc2 hf1 hno
          have hlt0 : w.heap.size < wc.heap.size := by have := q3V.2; omega
          go_wp2_with fail
          refine (sub_any _ _ _ _ _ _ _ _ _ h6 h5 (by omega)).mono ?_
          rintro e w6 ⟨A8, n8, c8, rfl, h8, hb6⟩
          rw [val_limbs, val_limbs] at h8
          rw [val_limbs, val_limbs, if_neg HNL.out]
          have hcell6 := (hb6.cell (p := ⟨w.heap.size, 0, none⟩) hlt0).trans hcell
          have hn8 : n8 ≤ K + L := by
            rw [← h8.len]
            exact Nat.le_trans (length_limbs_mono (Nat.sub_le _ _)) (by assumption)
          clear hcell
          go_wp2_with fail
          refine (canonical_eq (K := K + L + 1) h8 (h7.below hb6) (by simpa only [val_limbs] using HE.out) (by omega) (by omega) (by omega) (by omega)).mono ?_
          rintro e w7 ⟨A', n', c', B', m', d', rfl, hcan, hb7⟩
          have q37 := (q3V.below hb6).below hb7
          have hcg := q37.cells
          have hfg := q37.free
          have hcell7 := (hb7.cell (p := ⟨w.heap.size, 0, none⟩) (Nat.lt_of_lt_of_le hlt0 hb6.size)).trans hcell6
          go_wp2
          exact bodyPost_ret (v := .agg #[.bool (qneg (p + q)), .slice A' n' c', .slice B' m' d']) (by simp [results, Try.results69, go_sem, hcg]) rfl ⟨A', n', c', B', m', d', rfl, hcan.store3 q37.noNum, below3 (below_step hb7 (below_step hb6 hV)) (by omega) _ _ _⟩
      · have hcv : 0 ≤ cmpV (p.num.natAbs * q.den) (q.num.natAbs * p.den) := by unfold cmpV; rw [if_neg hlt]; split <;> omega
        have HE := hide (plus_left HSG.out HTG.out hst (Nat.le_of_not_lt hlt))
        have HNL := hide hlt
        obtain ⟨cv, hcve⟩ : ∃ cv, cv = cmpV (p.num.natAbs * q.den) (q.num.natAbs * p.den) := ⟨_, rfl⟩
        rw [← hcve] at hcall hcv
        clear hst hlt hcve
        go_wp2_with fail
        refine hcall.mono ?_
        rintro e w5 ⟨rfl, hb5⟩
        have hF5 : From W w5 := From.step hF4 hb5
        replace h5 := h5.below hb5
        replace h6 := h6.below hb5
        replace h7 := h7.below hb5
        clear hc1 hc2 hcall hsb
        have hcell := (Q1.out.later hF5).cells.1
        have hV := hS.trans (hF5.out.mono hS.size)
        have q3V := Q3.out.later hF5
        have hlt0 : w.heap.size < w5.heap.size := by have := q3V.2; omega
        go_wp2_with fail
        refine (sub_any _ _ _ _ _ _ _ _ _ h5 h6 (by omega)).mono ?_
        rintro e w6 ⟨A8, n8, c8, rfl, h8, hb6⟩
        rw [val_limbs, val_limbs] at h8
        rw [val_limbs, val_limbs, if_neg HNL.out]
        have hcell6 := (hb6.cell (p := ⟨w.heap.size, 0, none⟩) hlt0).trans hcell
        have hn8 : n8 ≤ K + L := by
          rw [← h8.len]
          exact Nat.le_trans (length_limbs_mono (Nat.sub_le _ _)) (by assumption)
        clear hcell
        go_wp2_with fail
        refine (canonical_eq (K := K + L + 1) h8 (h7.below hb6) (by simpa only [val_limbs] using HE.out) (by omega) (by omega) (by omega) (by omega)).mono ?_
        rintro e w7 ⟨A', n', c', B', m', d', rfl, hcan, hb7⟩
        have q37 := (q3V.below hb6).below hb7
        have hcg := q37.cells
        have hfg := q37.free
        have hcell7 := (hb7.cell (p := ⟨w.heap.size, 0, none⟩) (Nat.lt_of_lt_of_le hlt0 hb6.size)).trans hcell6
        go_wp2
        exact bodyPost_ret (v := .agg #[.bool (qneg (p + q)), .slice A' n' c', .slice B' m' d']) (by simp [results, Try.results69, go_sem, hcg]) rfl ⟨A', n', c', B', m', d', rfl, hcan.store3 q37.noNum, below3 (below_step hb7 (below_step hb6 hV)) (by omega) _ _ _⟩
end Go.Proofs.Ytlomanhmpbapeaa
