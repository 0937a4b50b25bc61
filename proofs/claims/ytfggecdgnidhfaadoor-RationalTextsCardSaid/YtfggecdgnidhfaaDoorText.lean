/- The decimal text of a number: the walk of nat.Text. -/
import Derived.Test.YtfggecdgnidhfaaDoorNine
import Derived.Test.YtfggecdgnidhfaaDoorShelf
import Derived.Test.YtfggecdgnidhfaaDoorAppG
import Derived.Test.YtfggecdgnidhfaaDoorRefAdd
namespace Go.Proofs.YtfggecdgnidhfaaDoor
open Go.RowKit
theorem shape_builder_below {B b : Nat} {bs : List Value} {w w' : World} (h : Lib.IsBuilder 46 5 B b bs w) (hb : Below w.heap.size w w') : Lib.IsBuilder 46 5 B b bs w' := by
  have key : ∀ p, Lib.BuilderAt 46 5 B b p bs w → Lib.BuilderAt 46 5 B b p bs w' := by
    rintro p ⟨h1, v, h2, ⟨h3, h4⟩, h5⟩
    have hlt : b < w.heap.size := (Array.getElem?_eq_some_iff.1 h2).1
    refine ⟨h1, v, (hb.block b hlt).trans h2, ⟨h3, ?_⟩, h5⟩
    rcases h4 with h4 | ⟨g, cap, cur, k1, k2, k3, k4⟩
    · exact .inl h4
    · exact .inr ⟨g, cap, cur, k1, k2, (hb.block g (Array.getElem?_eq_some_iff.1 k3).1).trans k3, k4⟩
  rcases h with h | h
  · exact .inl (key _ h)
  · exact .inr (key _ h)
/-- The groups of nine digits, the lowest first. -/
def grp (k N : Nat) : List Nat := (List.range k).map fun i => N / 1000000000 ^ i % 1000000000
theorem grp_len (k N : Nat) : (grp k N).length = k := by simp [grp]
theorem grp_succ (k N : Nat) : grp (k + 1) N = grp k N ++ [N / 1000000000 ^ k % 1000000000] := by simp [grp, List.range_succ]
theorem grp_at {k N i : Nat} (h : i < k) : lim (grp k N) i = N / 1000000000 ^ i % 1000000000 := by
  unfold lim grp
  simp [List.getD_eq_getElem?_getD, h]
/-- The text of the groups from j on. -/
def txt (k N j : Nat) : List UInt8 := if j = k then [] else strip (dgs (9 * (k - j)) (N / 1000000000 ^ j))
theorem txt_top {k N : Nat} (hk : N / 1000000000 ^ (k + 1) = 0) : txt (k + 1) N k = strip (dgs 9 (N / 1000000000 ^ k % 1000000000)) := by
  have h1 : N / 1000000000 ^ k < 1000000000 := by
    rw [Nat.pow_succ, ← Nat.div_div_eq_div_mul] at hk
    omega
  unfold txt
  rw [if_neg (by omega), show 9 * (k + 1 - k) = 9 by omega, Nat.mod_eq_of_lt h1]
theorem txt_step {k N j : Nat} (hj : j + 1 < k) (h0 : N / 1000000000 ^ (k - 1) ≠ 0) (hk : N / 1000000000 ^ k = 0) : txt k N (j + 1) ++ dgs 9 (N / 1000000000 ^ j % 1000000000) = txt k N j := by
  unfold txt
  rw [if_neg (by omega), if_neg (by omega), show 9 * (k - j) = 9 * (k - (j + 1)) + 9 by omega, dgs_add, show (1000000000 : Nat) = 10 ^ 9 from rfl, dgs_mod, Nat.div_div_eq_div_mul, ← Nat.pow_succ]
  refine (strip_app (strip_dgs_ne ?_ ?_)).symm
  · intro h1
    apply h0
    rw [show (1000000000 : Nat) = 10 ^ 9 from rfl] at h0 hk ⊢
    obtain ⟨e, he⟩ : ∃ e, k - 1 = (j + 1) + e := ⟨k - 1 - (j + 1), by omega⟩
    rw [he, Nat.pow_add, ← Nat.div_div_eq_div_mul, h1, Nat.zero_div]
  · rw [show (1000000000 : Nat) = 10 ^ 9 from rfl] at hk
    have h2 : N < (10 ^ 9) ^ k := by
      rcases Nat.lt_or_ge N ((10 ^ 9) ^ k) with h | h
      · exact h
      · have := Nat.div_pos h (Nat.pow_pos (by decide))
        omega
    rw [Nat.div_lt_iff_lt_mul (Nat.pow_pos (by decide)), Nat.pow_mul, ← Nat.pow_add, show k - (j + 1) + (j + 1) = k by omega]
    exact h2
theorem txt_end {k N : Nat} (h0 : N ≠ 0) (hk : N / 1000000000 ^ k = 0) (hk0 : 0 < k) : txt k N 0 = dec N := by
  unfold txt
  rw [if_neg (by omega), Nat.sub_zero, Nat.pow_zero, Nat.div_one]
  refine (dec_of h0 ?_).symm
  rw [Nat.pow_mul]
  rcases Nat.lt_or_ge N ((10 ^ 9) ^ k) with h | h
  · exact h
  · have := Nat.div_pos h (Nat.pow_pos (by decide))
    rw [show (1000000000 : Nat) = 10 ^ 9 from rfl] at hk
    omega
theorem limbs_posT {N : Nat} (h : N ≠ 0) : 0 < (limbs N).length := by
  rcases Nat.eq_zero_or_pos (limbs N).length with h1 | h1
  · exact absurd (by rw [← val_limbs N, List.eq_nil_of_length_eq_zero h1]; rfl) h
  · exact h1
/-- The length of a slice. -/
def lenV : Value → Nat
  | .slice _ n _ => n
  | _ => 0
theorem grp_few {k N n : Nat} (h : N / 1000000000 ^ k ≠ 0) (hN : N < 4294967296 ^ n) : k < 32 * n ∧ k ≤ N := by
  have h1 : 1000000000 ^ k ≤ N := by
    rcases Nat.lt_or_ge N (1000000000 ^ k) with h2 | h2
    · exact absurd (Nat.div_eq_of_lt h2) h
    · exact h2
  have h2 : 2 ^ k ≤ 1000000000 ^ k := Nat.pow_le_pow_left (by decide) k
  have h3 : 4294967296 ^ n = 2 ^ (32 * n) := by rw [Nat.pow_mul]
  have h4 : 2 ^ k < 2 ^ (32 * n) := by omega
  refine ⟨(Nat.pow_lt_pow_iff_right (by decide)).1 h4, ?_⟩
  have := Nat.lt_two_pow_self (n := k)
  omega
set_option maxHeartbeats 4000000 in
set_option maxRecDepth 10000 in
theorem text_any (A : Option Addr) (n c : Nat) (l : List Nat) (w : World) (h : Rd w A n c l) (hn : n ≤ 100000) :
    Calls Tryd.prog 7 #[.slice A n c] w (Makes (.string ⟨(dec (val l)).toArray⟩) w) := by
  obtain ⟨i0, hi, hz0, hz1, hz2⟩ := info_parts Tryd.infoU32
  obtain ⟨N, hN⟩ : ∃ N, N = val l := ⟨_, rfl⟩
  have hNlt : N < 4294967296 ^ n := by
    have := val_lt h.lims
    rw [h.len] at this
    rw [hN]
    exact this
  rw [← hN]
  have HNL := hide hNlt
  clear hNlt
  go_enter Tryd.func7, Tryd.ntmps7
  go_wp2_with fail
  refine (short_lim A n c l w h).mono ?_
  rintro e w1 ⟨m, rfl, h1, hm, rfl⟩
  rw [← hN] at h1
  clear hN h
  by_cases hz : N = 0
  · have hm0 : m = 0 := by
      have := h1.len
      rw [hz, limbs_zero] at this
      exact this.symm
    subst hm0
    have HD : Hid (dec N = [48]) := by rw [hz]; rfl
    clear hz h1
    go_wp2
    go_ret
    exact ⟨by rw [HD.out]; rfl, Below.refl _ _⟩
  · have hm1 : ((m : Int) == 0) = false := by
      have h2 := h1.len
      have h3 := limbs_posT hz
      simp
      omega
    have HZ := hide hz
    have hr0 : Rd w1 A m m (limbs (N / 1000000000 ^ 0)) := by rw [Nat.pow_zero, Nat.div_one]; exact h1
    clear hz h1
    go_wp2_with fail
    go_loopw [0, 3, 4, 5] (fun av gv _ _ wr => ∃ (k : Nat) (A1 : Option Addr) (n1 c1 : Nat) (A2 : Option Addr) (c2 : Nat), av = .slice A1 n1 c1 ∧ gv = .slice A2 k c2 ∧ Rd wr A1 n1 c1 (limbs (N / 1000000000 ^ k)) ∧ Own wr w1.heap.size 40 A2 k c2 (grp k N) ∧ (0 < k → N / 1000000000 ^ (k - 1) ≠ 0) ∧ Below w1.heap.size w1 wr) (fun _ gv _ _ _ => N + 1 - lenV gv)
    case atStart => exact ⟨0, _, _, _, _, _, rfl, rfl, hr0, Own.nil _ _ _, fun h => absurd h (by omega), Below.refl _ _⟩
    case round =>
      clear hr0
      obtain ⟨k, A1, n1, c1, A2, c2, rfl, rfl, hr, hown, hne, hS⟩ := hrel
      by_cases hq : N / 1000000000 ^ k = 0
      · have hn1 : n1 = 0 := by
          have := hr.len
          rw [hq, limbs_zero] at this
          exact this.symm
        subst hn1
        have hk0 : 0 < k := by
          rcases Nat.eq_zero_or_pos k with h9 | h9
          · rw [h9, Nat.pow_zero, Nat.div_one] at hq
            exact absurd hq HZ.out
          · exact h9
        have hkb : k ≤ 3200001 := by
          have := (grp_few (hne hk0) HNL.out).1
          omega
        have HQ := hide hq
        have HNE := hide (hne hk0)
        have HOWN := hide hown
        clear hq hne hr hown
        obtain ⟨W, hWd⟩ : ∃ W : World, W = wr := ⟨_, rfl⟩
        subst hWd
        have HTE : Hid (txt k N k = []) := if_pos rfl
        have hfresh := Lib.fresh_isBuilder 46 5 W
        have hbw := below_alloc W (.cells #[.pointer none, .slice none 0 0] 46)
        go_wp2_with fail
        go_loopw [7, 8] (fun iv _ wr => ∃ j : Nat, j ≤ k ∧ iv = .int .i64 ((j : Int) - 1) ∧ Lib.IsBuilder 46 5 W.heap.size W.heap.size (Lib.byteCells (txt k N j)) wr ∧ Below W.heap.size W wr) (fun iv _ _ => (intOf iv + 1).toNat)
        case atStart => exact ⟨k, Nat.le_refl _, rfl, HTE.out.symm ▸ hfresh, hbw⟩
        case round =>
          clear hfresh hbw
          obtain ⟨j, hj, rfl, hB, hS2⟩ := hrel
          cases j with
          | zero =>
            have hcall := Tryd.Builder_String_any W.heap.size W.heap.size (txt k N 0) wr hB hS2.size
            rw [txt_end HZ.out HQ.out hk0] at hcall
            have HC := hide hcall
            clear hcall hB
            go_wp2_with fail
            refine HC.out.mono ?_
            rintro e w5 ⟨rfl, hb5⟩
            go_wp2
            go_ret
            exact ⟨rfl, below_step (hS2.trans hb5) hS⟩
          | succ j =>
            have hji : ((j + 1 : Nat) : Int) - 1 = (j : Int) := by omega
            rw [hji]
            have hrdg := HOWN.out.rd.below hS2
            obtain ⟨b, off, rfl, hb, hcell⟩ := hrdg.at (k := j) (by omega)
            rw [grp_at (by omega)] at hcell
            have hx9 : N / 1000000000 ^ j % 1000000000 < 1000000000 := Nat.mod_lt _ (by decide)
            have HBB := hide (And.intro hB hS2)
            have htl : (txt k N (j + 1)).length ≤ 9 * 3200001 := by
              unfold txt
              split
              · exact Nat.zero_le _
              · refine Nat.le_trans (strip_len _) ?_
                rw [dgs_len]
                omega
            by_cases hjk : j + 1 = k
            · have hq1 : ((j : Int) == (k : Int) - 1) = true := by simp; omega
              have HTX : Hid (txt k N j = strip (dgs 9 (N / 1000000000 ^ j % 1000000000))) := by
                have h9 := HQ.out
                rw [← hjk] at h9
                rw [Hid, ← hjk]
                exact txt_top h9
              have HT0 : Hid (txt k N (j + 1) = []) := if_pos hjk
              clear hrdg hB hji
              generalize N / 1000000000 ^ j % 1000000000 = x at *
              go_wp2_with fail
              refine (nine_any x hx9 wr).mono ?_
              rintro e w5 ⟨rfl, hb5⟩
              go_wp2_with fail
              refine (Tryd.strings_TrimLeft_one _ 48 (by decide) w5).mono ?_
              rintro e w6 ⟨rfl, rfl⟩
              have hB5 := shape_builder_below HBB.out.1 hb5
              have hS5 := HBB.out.2.trans (hb5.mono HBB.out.2.size)
              have hcall := Tryd.Builder_WriteString W.heap.size W.heap.size _ ⟨(strip (dgs 9 x)).toArray⟩ _ hB5 (by
                rw [HT0.out]
                have h9 := strip_len (dgs 9 x)
                rw [dgs_len] at h9
                simp [Lib.byteCells, ByteArray.size]
                omega) hS5.size
              rw [HT0.out] at hcall
              have HC := hide hcall
              clear hcall hB5
              go_wp2_with fail
              refine HC.out.mono ?_
              rintro e w7 ⟨rfl, hB7, hb7⟩
              have hB8 : Lib.IsBuilder 46 5 W.heap.size W.heap.size (Lib.byteCells (txt k N j)) w7 := by
                rw [HTX.out]
                exact .inr (by simpa [Lib.byteCells, Lib.strCells] using hB7)
              have HF := hide (And.intro hB8 (hS5.trans hb7))
              clear hB7 hB8 hb7 hb5 hS5 hcell
              go_wp2
              go_roundw
              case rel => exact ⟨j, by omega, by go_num, HF.out.1, HF.out.2⟩
              case measure => simp [intOf] <;> omega
            · have hq1 : ((j : Int) == (k : Int) - 1) = false := by simp; omega
              have HTX := hide (txt_step (k := k) (N := N) (j := j) (by omega) HNE.out HQ.out)
              have HTL := hide htl
              clear hrdg hB hji htl
              generalize N / 1000000000 ^ j % 1000000000 = x at *
              go_wp2_with fail
              refine (nine_any x hx9 wr).mono ?_
              rintro e w5 ⟨rfl, hb5⟩
              have hB5 := shape_builder_below HBB.out.1 hb5
              have hS5 := HBB.out.2.trans (hb5.mono HBB.out.2.size)
              have hcall := Tryd.Builder_WriteString W.heap.size W.heap.size _ ⟨(dgs 9 x).toArray⟩ _ hB5 (by
                have h8 := HTL.out
                simp [Lib.byteCells, ByteArray.size, dgs_len]
                omega) hS5.size
              have HC := hide hcall
              clear hcall hB5
              go_wp2_with fail
              refine HC.out.mono ?_
              rintro e w7 ⟨rfl, hB7, hb7⟩
              have hB8 : Lib.IsBuilder 46 5 W.heap.size W.heap.size (Lib.byteCells (txt k N j)) w7 := by
                rw [← HTX.out]
                exact .inr (by simpa [Lib.byteCells, Lib.strCells] using hB7)
              have HF := hide (And.intro hB8 (hS5.trans hb7))
              clear hB7 hB8 hb7 hb5 hS5 hcell
              go_wp2
              go_roundw
              case rel => exact ⟨j, by omega, by go_num, HF.out.1, HF.out.2⟩
              case measure => simp [intOf] <;> omega
      · have hn1 : (0 : Int) < (n1 : Int) := by
          have h2 := hr.len
          have h3 := limbs_posT hq
          omega
        have hfew := grp_few hq HNL.out
        have hn1b : n1 ≤ 100000 := by
          have h2 := hr.len
          have h3 : (limbs (N / 1000000000 ^ k)).length ≤ n := length_limbs_le (Nat.lt_of_le_of_lt (Nat.div_le_self _ _) HNL.out)
          omega
        have HFEW := hide hfew
        have HQ := hide hq
        clear hfew hq hne
        have hcall := digit_fresh A1 n1 c1 _ 1000000000 wr hr (by omega) (by omega) (by omega)
        rw [val_limbs] at hcall
        have HC := hide hcall
        clear hcall hr
        go_wp2_with fail
        refine HC.out.mono ?_
        rintro e w2 ⟨n3, c3, rfl, hr3, hb3⟩
        rw [Nat.div_div_eq_div_mul, ← Nat.pow_succ] at hr3
        have hx : N / 1000000000 ^ k % 1000000000 < 4294967296 := by omega
        have hg := grp_succ k N
        obtain ⟨x, hx0⟩ : ∃ x, x = N / 1000000000 ^ k % 1000000000 := ⟨_, rfl⟩
        rw [← hx0] at hg hx ⊢
        have HG := hide hg
        have hs1 := own_one w2 40 (x := x) (z := (x : Int)) rfl hx
        have hsrc := hs1.rd
        have hba := below_alloc w2 (.cells #[Value.int .u32 (x : Int)] 40)
        have HD := hide ((hown.below hb3).below hba)
        have HFAR : Hid (∀ b off g, (some ⟨wr.heap.size, 0, none⟩ : Option Addr) = some ⟨b, off, none⟩ → A2 = some ⟨g, 0, none⟩ → b ≠ g) := by
          intro b off g e1 e2
          have e3 : wr.heap.size = b := by injection e1 with e1; injection e1
          rcases hown.form with ⟨h9, _⟩ | ⟨g', h9, _, h8, _⟩
          · rw [h9] at e2; cases e2
          · rw [h9] at e2
            have e4 : g' = g := by injection e2 with e2; injection e2
            omega
        have hS2 := below_step hba (below_step hb3 hS)
        have hR3 := hide (hr3.below hba)
        have hkb : k + 1 ≤ 1073741824 := by have := HFEW.out.1; omega
        have hsz : w1.heap.size ≤ w2.heap.size + 1 := by have := hS.size; have := hb3.size; omega
        clear hg hx0 hs1 hba hown hr3 hb3
        go_wp2_with (at_builtin; refine wpList_append_rdg rfl _ _ _ 40 rfl i0 Tryd.underlying22 hi hz0 hz1 hz2 w1.heap.size _ k c2 (grp k N) rfl HD.out _ 1 1 _ rfl hsrc hkb (by simp; exact hsz) ?_; intro A' c' w4 hown1 hb1 hgr)
        rw [← HG.out] at hown1
        go_roundw
        case rel => exact ⟨k + 1, _, n3, c3, A', c', rfl, rfl, hR3.out.apart HD.out hgr HFAR.out, hown1, fun _ => HQ.out, hS2.trans hb1⟩
        case measure => (have h9 := HFEW.out.2); simp [lenV] <;> omega
end Go.Proofs.YtfggecdgnidhfaaDoor
