/- Rationals in memory: what a struct value reads as; the walks of canonical and Make. -/
import Derived.Test.YtfggecdgnidhfaaDoorGcd
import Derived.Test.YtfggecdgnidhfaaDoorRatMath
import Derived.Test.YtfggecdgnidhfaaDoorRefPow
namespace Go.Proofs.YtfggecdgnidhfaaDoor
open Go.RowKit

theorem bcell {W w1 : World} (hb : Below W.heap.size W w1) : (∀ b o, b < W.heap.size → w1.cell? ⟨b, o, none⟩ = W.cell? ⟨b, o, none⟩) ∧ (∀ b o, b < W.heap.size → w1.frozen? ⟨b, o, none⟩ = W.frozen? ⟨b, o, none⟩) :=
  ⟨fun b o h => hb.cell (p := ⟨b, o, none⟩) h, fun b o h => hb.frozen (p := ⟨b, o, none⟩) h⟩

/-- A rational in any form: the sign s, numerator and denominator in memory, its value q, at most K limbs each. -/
structure RawQ (w : World) (s : Bool) (A : Option Addr) (n c : Nat) (B : Option Addr) (m d : Nat) (q : Rat) (K : Nat) : Prop where
  ex : ∃ ln ld, Rd w A n c ln ∧ Rd w B m d ld ∧ ratOf s (val ln) (val ld) = q
  hn : n ≤ K
  hm : m ≤ K
/-- A rational in its canonical form. -/
structure CanQ (w : World) (A : Option Addr) (n c : Nat) (B : Option Addr) (m d : Nat) (q : Rat) (K : Nat) : Prop where
  num : Rd w A n c (limbs q.num.natAbs)
  den : Rd w B m d (limbs q.den)
  hn : n ≤ K
  hm : m ≤ K
section
variable {w w' : World} {s : Bool} {A B : Option Addr} {n c m d K L : Nat} {q : Rat}
theorem RawQ.below (h : RawQ w s A n c B m d q K) (hb : Below w.heap.size w w') : RawQ w' s A n c B m d q K := by
  obtain ⟨⟨ln, ld, h1, h2, h3⟩, hn, hm⟩ := h
  exact ⟨⟨ln, ld, h1.below hb, h2.below hb, h3⟩, hn, hm⟩
theorem CanQ.below (h : CanQ w A n c B m d q K) (hb : Below w.heap.size w w') : CanQ w' A n c B m d q K := ⟨h.num.below hb, h.den.below hb, h.hn, h.hm⟩
theorem CanQ.up (hb : Below w.heap.size w w') (h : CanQ w A n c B m d q K) : CanQ w' A n c B m d q K := h.below hb
theorem RawQ.up (hb : Below w.heap.size w w') (h : RawQ w s A n c B m d q K) : RawQ w' s A n c B m d q K := h.below hb
theorem CanQ.raw (h : CanQ w A n c B m d q K) : RawQ w (qneg q) A n c B m d q K :=
  ⟨⟨_, _, h.num, h.den, by rw [val_limbs, val_limbs, ratOf_self]⟩, h.hn, h.hm⟩
theorem CanQ.wide (h : CanQ w A n c B m d q K) (hK : K ≤ L) : CanQ w A n c B m d q L := ⟨h.num, h.den, Nat.le_trans h.hn hK, Nat.le_trans h.hm hK⟩
end
/-- No limb lies in block g. -/
def NoNum (w : World) (g : Nat) : Prop := ∀ o x, w.cell? ⟨g, o, none⟩ ≠ some (.int .u32 x)
theorem NoNum.of {w : World} {g : Nat} {s : Bool} {A B : Option Addr} {n c m d : Nat} {t : TypeId} {fr : Nat × Nat} (h : w.heap[g]? = some (.cells #[.bool s, .slice A n c, .slice B m d] t fr)) : NoNum w g := by
  intro o x hx
  rw [cell_of_row _ _ _ _ _ _ h] at hx
  match o, hx with
  | 0, hx => simp at hx
  | 1, hx => simp at hx
  | 2, hx => simp at hx
  | o + 3, hx => simp at hx
theorem NoNum.below {w w' : World} {g : Nat} (h : NoNum w g) {b : Nat} (hb : Below b w w') (hg : g < b) : NoNum w' g := by
  intro o x
  rw [hb.cell (p := ⟨g, o, none⟩) hg]
  exact h o x
/-- The variable of a result, or of a parameter, as it is laid; the calls behind it do not turn it. -/
theorem NoNum.box (w : World) (s : Bool) (A B : Option Addr) (n c m d : Nat) (t : TypeId) : NoNum (w.alloc (.cells #[.bool s, .slice A n c, .slice B m d] t)) w.heap.size := .of (heap_alloc_new w _)
section
variable {w w' : World} {s : Bool} {A B : Option Addr} {n c m d K g : Nat} {q : Rat} {l : List Nat}
theorem Rd.far (h : Rd w A n c l) (hg : w.grownBy w' (some g)) (hno : NoNum w g) : Rd w' A n c l :=
  ⟨h.len, h.cap, h.max, h.lims, fun hn => by
    obtain ⟨b, off, e, hlt, hc⟩ := h.cells hn
    have hne : b ≠ g := by
      rintro rfl
      exact hno _ _ (hc 0 hn)
    exact ⟨b, off, e, Nat.lt_of_lt_of_le hlt hg.size, fun j hj => hg.cell (hc j hj) (by simpa using hne)⟩⟩
theorem CanQ.far (h : CanQ w A n c B m d q K) (hg : w.grownBy w' (some g)) (hno : NoNum w g) : CanQ w' A n c B m d q K := ⟨h.num.far hg hno, h.den.far hg hno, h.hn, h.hm⟩
theorem RawQ.far (h : RawQ w s A n c B m d q K) (hg : w.grownBy w' (some g)) (hno : NoNum w g) : RawQ w' s A n c B m d q K := by
  obtain ⟨⟨ln, ld, h1, h2, h3⟩, hn, hm⟩ := h
  exact ⟨⟨ln, ld, h1.far hg hno, h2.far hg hno, h3⟩, hn, hm⟩
theorem only3 (w : World) (g : Nat) (a b e : Value) : w.grownBy (((w.setCell ⟨g, 0, none⟩ a).setCell ⟨g, 1, none⟩ b).setCell ⟨g, 2, none⟩ e) (some g) := only_setCell (only_setCell (only_setCell (only_refl w g) a) b) e
theorem below3 {W : World} (h : Below W.heap.size W w) (hg : W.heap.size ≤ g) (a b e : Value) : Below W.heap.size W (((w.setCell ⟨g, 0, none⟩ a).setCell ⟨g, 1, none⟩ b).setCell ⟨g, 2, none⟩ e) := ((h.setCell hg a).setCell hg b).setCell hg e
end
/-- A call that returns a canonical rational of the value q. -/
def RetQ (q : Rat) (K : Nat) (w : World) (x : Ending) (w' : World) : Prop :=
  ∃ A n c B m d, x = .returned (.agg #[.bool (qneg q), .slice A n c, .slice B m d]) ∧ CanQ w' A n c B m d q K ∧ Below w.heap.size w w'

theorem qone_any (w : World) : Calls Tryd.prog 31 #[] w fun e w' => e = .returned (.slice (some ⟨w.heap.size, 0, none⟩) 1 1) ∧ w' = w.alloc (.cells #[.int .u32 1] 40) := by
  go_enter Tryd.func31, Tryd.ntmps31
  go_wp2
  go_ret
  exact ⟨rfl, rfl⟩

theorem limbs_one : limbs 1 = [1] := by decide
/-- 0 as a canonical rational. -/
theorem can_zero {w : World} {A : Option Addr} {K : Nat} (h : Rd w A 1 1 (limbs 1)) (hK : 1 ≤ K) : CanQ w none 0 0 A 1 1 0 K :=
  ⟨by rw [show (0 : Rat).num.natAbs = 0 from rfl, limbs_zero]; exact Rd.nil w, h, Nat.zero_le _, hK⟩

set_option maxHeartbeats 1000000 in
theorem canonical_any (s : Bool) (A : Option Addr) (n c : Nat) (ln : List Nat) (B : Option Addr) (m d : Nat) (ld : List Nat) (w : World) (h : Rd w A n c ln) (h' : Rd w B m d ld) (K : Nat) (hn : n ≤ K) (hm : m ≤ K) (hK1 : 1 ≤ K) (hK : K ≤ 10000) :
    Calls Tryd.prog 34 #[.bool s, .slice A n c, .slice B m d] w (RetQ (ratOf s (val ln) (val ld)) K w) := by
  have ha : Rd (w.alloc (.cells #[.bool false, .slice none 0 0, .slice none 0 0] 33)) A n c ln := h.below (below_alloc _ _)
  have ha' : Rd (w.alloc (.cells #[.bool false, .slice none 0 0, .slice none 0 0] 33)) B m d ld := h'.below (below_alloc _ _)
  have hb1 := bits_any _ _ _ _ _ ha (by omega)
  have hb2 := bits_any _ _ _ _ _ ha' (by omega)
  by_cases h1 : val ln = 0
  · rw [h1, nbits_zero] at hb1
    go_enter Tryd.func34, Tryd.ntmps34
    go_wp2_with fail
    refine hb1.mono ?_
    rintro e w1 ⟨rfl, rfl⟩
    go_wp2_with fail
    refine (qone_any _).mono ?_
    rintro e w1 ⟨rfl, rfl⟩
    go_wp2
    have hrd := rd_one (w.alloc (.cells #[.bool false, .slice none 0 0, .slice (some ⟨w.heap.size + 1, 0, none⟩) 1 1] 33)) (w.heap.size + 1) (by simp)
    exact bodyPost_ret (v := .agg #[.bool false, .slice none 0 0, .slice (some ⟨w.heap.size + 1, 0, none⟩) 1 1]) (by simp [results, Tryd.results34, go_sem]) rfl
      ⟨none, 0, 0, some ⟨w.heap.size + 1, 0, none⟩, 1, 1, by rw [h1, ratOf_zero_num]; rfl, by rw [h1, ratOf_zero_num]; exact can_zero hrd hK1, ((Below.refl _ _).alloc (Nat.le_refl _) _).alloc (by simp) _⟩
  have hx1 : nbits (val ln) ≠ 0 := mt nbits_eq_zero.1 h1
  obtain ⟨x, hx⟩ : ∃ x, x = nbits (val ln) := ⟨_, rfl⟩
  rw [← hx] at hb1 hx1
  have hxe : ((x : Int) == 0) = false := by simp; exact hx1
  clear hx
  by_cases h2 : val ld = 0
  · rw [h2, nbits_zero] at hb2
    have H2 := hide h2
    clear h1 h2
    go_enter Tryd.func34, Tryd.ntmps34
    go_wp2_with fail
    refine hb1.mono ?_
    rintro e w1 ⟨rfl, rfl⟩
    go_wp2_with fail
    refine hb2.mono ?_
    rintro e w1 ⟨rfl, rfl⟩
    go_wp2_with fail
    refine (qone_any _).mono ?_
    rintro e w1 ⟨rfl, rfl⟩
    go_wp2
    have hrd := rd_one (w.alloc (.cells #[.bool false, .slice none 0 0, .slice (some ⟨w.heap.size + 1, 0, none⟩) 1 1] 33)) (w.heap.size + 1) (by simp)
    exact bodyPost_ret (v := .agg #[.bool false, .slice none 0 0, .slice (some ⟨w.heap.size + 1, 0, none⟩) 1 1]) (by simp [results, Tryd.results34, go_sem]) rfl
      ⟨none, 0, 0, some ⟨w.heap.size + 1, 0, none⟩, 1, 1, by rw [H2.out, ratOf_zero_den]; rfl, by rw [H2.out, ratOf_zero_den]; exact can_zero hrd hK1, ((Below.refl _ _).alloc (Nat.le_refl _) _).alloc (by simp) _⟩
  · have hy1 : nbits (val ld) ≠ 0 := mt nbits_eq_zero.1 h2
    obtain ⟨y, hy⟩ : ∃ y, y = nbits (val ld) := ⟨_, rfl⟩
    rw [← hy] at hb2 hy1
    have hye : ((y : Int) == 0) = false := by simp; exact hy1
    have H1 := hide h1
    have H2 := hide h2
    obtain ⟨w0, hw0⟩ : ∃ w0, w0 = w.alloc (.cells #[.bool false, .slice none 0 0, .slice none 0 0] 33) := ⟨_, rfl⟩
    have HW0 := hide hw0
    have hgz : w0.heap.size = w.heap.size + 1 := by rw [hw0]; simp
    have HGZ := hide hgz
    have hB0 := below_alloc w (.cells #[.bool false, .slice none 0 0, .slice none 0 0] 33)
    clear hy h1 h2 hgz hw0
    go_enter Tryd.func34, Tryd.ntmps34
    go_wp2_with fail
    refine hb1.mono ?_
    rintro e w1 ⟨rfl, rfl⟩
    go_wp2_with fail
    refine hb2.mono ?_
    rintro e w1 ⟨rfl, rfl⟩
    clear hb1 hb2
    go_wp2_with fail
    refine (gcd_any _ _ _ _ _ _ _ _ _ ha ha' (by omega) (by omega)).mono ?_
    rintro e w1 ⟨A1, n1, c1, rfl, hg, hb1⟩
    have hg0 : Nat.gcd (val ln) (val ld) ≠ 0 := by
      have := Nat.gcd_pos_of_pos_left (val ld) (Nat.pos_of_ne_zero H1.out)
      omega
    have HG0 := hide hg0
    have hgn : n1 ≤ K := by
      rw [← hg.len]
      exact length_limbs_le (Nat.lt_of_le_of_lt (Nat.gcd_le_left _ (Nat.pos_of_ne_zero H1.out)) (Nat.lt_of_lt_of_le (val_lt_len h) (pow_le_pow_limb hn)))
    clear hg0 hxe hye
    go_wp2_with fail
    refine (divmod1 (ha.below hb1) hg (by omega) (by omega) (by rw [val_limbs]; exact HG0.out)).mono ?_
    rintro e w2 ⟨A2, n2, c2, A2', n2', c2', rfl, hq1, -, hb2, hn2, -⟩
    rw [val_limbs] at hq1
    go_wp2_with fail
    refine (divmod1 ((ha'.below hb1).below hb2) (hg.below hb2) (by omega) (by omega) (by rw [val_limbs]; exact HG0.out)).mono ?_
    rintro e w3 ⟨A3, n3, c3, A3', n3', c3', rfl, hq2, -, hb3, hn3, -⟩
    rw [val_limbs] at hq2
    replace hq1 := hq1.below hb3
    have hS := below_step hb3 (below_step hb2 hb1)
    have hSw := below_step hS hB0
    obtain ⟨hc, hf⟩ := bcell hS
    have hz : w.heap.size < w3.heap.size := by
      have := hS.size
      simp at this
      omega
    clear hb1 hb2 hb3 ha ha' hg
    have hno : NoNum w3 w.heap.size := (NoNum.box w _ _ _ _ _ _ _ _).below hS (by simp)
    have hcan : CanQ w3 A2 n2 c2 A3 n3 c3 (ratOf s (val ln) (val ld)) K := ⟨by rw [ratOf_abs H2.out]; exact hq1, by rw [ratOf_den H2.out]; exact hq2, by omega, by omega⟩
    have HQ := hide (ratOf_neg_flag (s := s) H1.out H2.out)
    go_wp2
    exact bodyPost_ret (v := .agg #[.bool s, .slice A2 n2 c2, .slice A3 n3 c3]) (by simp [results, Tryd.results34, go_sem, hc]) rfl
      ⟨A2, n2, c2, A3, n3, c3, by rw [HQ.out], hcan.far (only3 _ _ _ _ _) hno, below3 hSw (Nat.le_refl _) _ _ _⟩
end Go.Proofs.YtfggecdgnidhfaaDoor
