/- The walks of valued, Counts, Fits: whether the values fit the layered graph. -/
import Derived.Test.YtjadgomakoaibaaRefShape
import Derived.Test.YtjadgomakoaibaaPathM
import Derived.Test.YtjadgomakoaibaaMakes
namespace Go.Proofs.Ytjadgomakoaibaa
open Go.RowKit

theorem From.lasts {W : World} : ∀ w w', Below w.heap.size w w' → From W w → From W w' := fun _ _ hb h => From.step h hb
/-- The slice reads as slices of these lengths. -/
structure RdLens (w : World) (A : Option Addr) (n c : Nat) (lens : List Nat) : Prop where
  len : lens.length = n
  cap : n ≤ c
  max : c ≤ maxLen
  cells : 0 < n → ∃ b off, A = some ⟨b, off, none⟩ ∧ b < w.heap.size ∧ ∀ i, i < n → ∃ Ai e, w.cell? ⟨b, off + i, none⟩ = some (.slice Ai (lens.getD i 0) e) ∧ lens.getD i 0 ≤ 9223372036854775807
theorem RdLens.below {w w' : World} {A : Option Addr} {n c : Nat} {lens : List Nat} (h : RdLens w A n c lens) (hb : Below w.heap.size w w') : RdLens w' A n c lens :=
  ⟨h.len, h.cap, h.max, fun hn => by
    obtain ⟨b, off, e, hlt, hc⟩ := h.cells hn
    refine ⟨b, off, e, Nat.lt_of_lt_of_le hlt hb.size, fun i hi => ?_⟩
    obtain ⟨Ai, e', h1, h2⟩ := hc i hi
    exact ⟨Ai, e', (hb.cell (p := ⟨b, off + i, none⟩) hlt).trans h1, h2⟩⟩
theorem RdLens.le63 {w : World} {A : Option Addr} {n c : Nat} {lens : List Nat} (h : RdLens w A n c lens) : n ≤ 9223372036854775807 := by
  have := h.cap; have := h.max; unfold maxLen at this; omega
theorem RdR.lens {α : Type} {C : Cells α} {d : α} {w : World} {A : Option Addr} {n c : Nat} {R : List (List α)} (h : RdR C d w 1 A n c R) : RdLens w A n c (R.map List.length) :=
  ⟨by simp [h.len], h.cap, h.max, fun hn => by
    obtain ⟨b, off, e, hlt, hc⟩ := h.cells hn
    refine ⟨b, off, e, hlt, fun i hi => ?_⟩
    obtain ⟨Ai, m, e', h1, h2⟩ := hc i hi
    have h3 : (R.map List.length).getD i 0 = m := by
      have h4 := h2.len
      rw [List.getD_eq_getElem?_getD, List.getElem?_eq_getElem (by rw [h.len]; exact hi)] at h4
      rw [List.getD_eq_getElem?_getD, List.getElem?_eq_getElem (by simp [h.len, hi])]
      simp at h4 ⊢
      exact h4
    rw [h3]
    exact ⟨Ai, e', h1, h2.le63⟩⟩


set_option maxHeartbeats 1000000 in
theorem valued_int (w : World) (AW : Option Addr) (nW cW : Nat) (W : List Int) (AE : Option Addr) (nE cE : Nat) (ee : List (List EdgeT)) (hW : RdI w AW nW cW W) (hE : RdEE w AE nE cE ee)
    (A : Option Addr) (n c : Nat) (lens : List Nat) (hL : RdLens w A n c lens) :
    Calls Try.prog 41 #[.agg #[.slice AW nW cW, .slice AE nE cE], .slice A n c] w (Makes (.int .i64 (fitsV W ee lens)) w) := by
  have hS0 := below_alloc w (.cells #[.slice AW nW cW, .slice AE nE cE] 25)
  have hcall := hide (shape_any _ AW nW cW W AE nE cE ee (hW.below hS0) (hE.below hS0))
  have hbx : (w.alloc (.cells #[.slice AW nW cW, .slice AE nE cE] 25)).cell? ⟨w.heap.size, 1, none⟩ = some (.slice AE nE cE) := by rw [cell_of_row _ _ _ _ _ _ (heap_alloc_new w _)]; rfl
  have HBX := hide hbx
  clear hbx
  by_cases hsh : shapeV W ee = 0
  all_goals
    go_enter Try.func41, Try.ntmps41
    go_wp2_with fail
    refine hcall.out.mono ?_
    rintro e w1 ⟨rfl, hb1⟩
    have hS := below_step hb1 hS0
    have hc1 := (hb1.cell (p := ⟨w.heap.size, 1, none⟩) (by simp)).trans HBX.out
  · have HSH := hide hsh
    rw [hsh]
    clear hsh hb1 hS0 hcall
    have hlE := hide hE.len
    have hlL := hide hL.len
    have hE63 := hE.le63
    have hL63 := hL.le63
    by_cases hne : n = nE
    · subst hne
      go_wp2_with fail
      go_loop [6, 7, 22] (fun _ _ iv => ∃ i : Nat, i ≤ n ∧ iv = .int .i64 (i : Int) ∧ ∀ k, k < i → lens.getD k 0 = (ee.getD k []).length) (fun _ _ iv => n - (intOf iv).toNat)
      case atStart => exact ⟨0, Nat.zero_le _, rfl, fun _ h => absurd h (by omega)⟩
      case round =>
        obtain ⟨i, hi, rfl, hex⟩ := hrel
        have HX := hide hex
        clear hex
        by_cases hlt : i < n
        · obtain ⟨b, off, rfl, hb, hcells⟩ := (hE.below hS).cells (by omega)
          obtain ⟨Aj, nj, cj, hcell, hrd⟩ := hcells i hlt
          obtain ⟨b2, off2, rfl, hb2, hcells2⟩ := (hL.below hS).cells (by omega)
          obtain ⟨Ai, ei, hcell2, hm63⟩ := hcells2 i hlt
          have hnj63 := hrd.le63
          have HL := hide hrd.len
          clear hcells hcells2 hrd
          generalize hm : lens.getD i 0 = m at *
          have HM := hide hm
          clear hm
          by_cases hq : m = nj
          · subst hq
            have HN : Hid (∀ k, k < i + 1 → lens.getD k 0 = (ee.getD k []).length) := fun k hk => by
              rcases Nat.lt_or_ge k i with h9 | h9
              · exact HX.out k h9
              · obtain rfl : k = i := by omega
                rw [HM.out, HL.out]
            go_wp2
            go_round
            case rel => exact ⟨i + 1, by omega, by go_num, HN.out⟩
            case measure => simp [intOf]; omega
          · have hR : Hid (fitsV W ee lens = 3) := fits_bad HSH.out (lens_ne (i := i) (by rw [hlE.out]; exact hlt) (by rw [HM.out, HL.out]; exact hq))
            have hd : ((m : Int) != (nj : Int)) = true := by simp; omega
            go_wp2
            go_ret
            rw [hR.out]
            exact ⟨rfl, hS⟩
        · have hR : Hid (fitsV W ee lens = 0) := fits_ok HSH.out (lens_eq (by rw [hlL.out, hlE.out]) (fun k hk => HX.out k (by rw [hlE.out] at hk; omega)))
          go_wp2
          go_ret
          rw [hR.out]
          exact ⟨rfl, hS⟩
    · have hR : Hid (fitsV W ee lens = 3) := fits_bad HSH.out (by
        intro h9
        have := congrArg List.length h9
        rw [List.length_map, hlL.out, hlE.out] at this
        exact hne this)
      have hd : ((n : Int) != (nE : Int)) = true := by simp; omega
      go_wp2
      go_ret
      rw [hR.out]
      exact ⟨rfl, hS⟩
  · have hR : Hid (fitsV W ee lens = shapeV W ee) := fits_shape hsh
    have hd : (shapeV W ee != 0) = true := by simpa using hsh
    go_wp2
    go_ret
    rw [hR.out]
    exact ⟨rfl, hS⟩


set_option maxHeartbeats 1000000 in
theorem valued_nat (w : World) (AW : Option Addr) (nW cW : Nat) (W : List Int) (AE : Option Addr) (nE cE : Nat) (ee : List (List EdgeT)) (hW : RdI w AW nW cW W) (hE : RdEE w AE nE cE ee)
    (A : Option Addr) (n c : Nat) (lens : List Nat) (hL : RdLens w A n c lens) :
    Calls Try.prog 32 #[.agg #[.slice AW nW cW, .slice AE nE cE], .slice A n c] w (Makes (.int .i64 (fitsV W ee lens)) w) := by
  have hS0 := below_alloc w (.cells #[.slice AW nW cW, .slice AE nE cE] 25)
  have hcall := hide (shape_any _ AW nW cW W AE nE cE ee (hW.below hS0) (hE.below hS0))
  have hbx : (w.alloc (.cells #[.slice AW nW cW, .slice AE nE cE] 25)).cell? ⟨w.heap.size, 1, none⟩ = some (.slice AE nE cE) := by rw [cell_of_row _ _ _ _ _ _ (heap_alloc_new w _)]; rfl
  have HBX := hide hbx
  clear hbx
  by_cases hsh : shapeV W ee = 0
  all_goals
    go_enter Try.func32, Try.ntmps32
    go_wp2_with fail
    refine hcall.out.mono ?_
    rintro e w1 ⟨rfl, hb1⟩
    have hS := below_step hb1 hS0
    have hc1 := (hb1.cell (p := ⟨w.heap.size, 1, none⟩) (by simp)).trans HBX.out
  · have HSH := hide hsh
    rw [hsh]
    clear hsh hb1 hS0 hcall
    have hlE := hide hE.len
    have hlL := hide hL.len
    have hE63 := hE.le63
    have hL63 := hL.le63
    by_cases hne : n = nE
    · subst hne
      go_wp2_with fail
      go_loop [6, 7, 22] (fun _ _ iv => ∃ i : Nat, i ≤ n ∧ iv = .int .i64 (i : Int) ∧ ∀ k, k < i → lens.getD k 0 = (ee.getD k []).length) (fun _ _ iv => n - (intOf iv).toNat)
      case atStart => exact ⟨0, Nat.zero_le _, rfl, fun _ h => absurd h (by omega)⟩
      case round =>
        obtain ⟨i, hi, rfl, hex⟩ := hrel
        have HX := hide hex
        clear hex
        by_cases hlt : i < n
        · obtain ⟨b, off, rfl, hb, hcells⟩ := (hE.below hS).cells (by omega)
          obtain ⟨Aj, nj, cj, hcell, hrd⟩ := hcells i hlt
          obtain ⟨b2, off2, rfl, hb2, hcells2⟩ := (hL.below hS).cells (by omega)
          obtain ⟨Ai, ei, hcell2, hm63⟩ := hcells2 i hlt
          have hnj63 := hrd.le63
          have HL := hide hrd.len
          clear hcells hcells2 hrd
          generalize hm : lens.getD i 0 = m at *
          have HM := hide hm
          clear hm
          by_cases hq : m = nj
          · subst hq
            have HN : Hid (∀ k, k < i + 1 → lens.getD k 0 = (ee.getD k []).length) := fun k hk => by
              rcases Nat.lt_or_ge k i with h9 | h9
              · exact HX.out k h9
              · obtain rfl : k = i := by omega
                rw [HM.out, HL.out]
            go_wp2
            go_round
            case rel => exact ⟨i + 1, by omega, by go_num, HN.out⟩
            case measure => simp [intOf]; omega
          · have hR : Hid (fitsV W ee lens = 3) := fits_bad HSH.out (lens_ne (i := i) (by rw [hlE.out]; exact hlt) (by rw [HM.out, HL.out]; exact hq))
            have hd : ((m : Int) != (nj : Int)) = true := by simp; omega
            go_wp2
            go_ret
            rw [hR.out]
            exact ⟨rfl, hS⟩
        · have hR : Hid (fitsV W ee lens = 0) := fits_ok HSH.out (lens_eq (by rw [hlL.out, hlE.out]) (fun k hk => HX.out k (by rw [hlE.out] at hk; omega)))
          go_wp2
          go_ret
          rw [hR.out]
          exact ⟨rfl, hS⟩
    · have hR : Hid (fitsV W ee lens = 3) := fits_bad HSH.out (by
        intro h9
        have := congrArg List.length h9
        rw [List.length_map, hlL.out, hlE.out] at this
        exact hne this)
      have hd : ((n : Int) != (nE : Int)) = true := by simp; omega
      go_wp2
      go_ret
      rw [hR.out]
      exact ⟨rfl, hS⟩
  · have hR : Hid (fitsV W ee lens = shapeV W ee) := fits_shape hsh
    have hd : (shapeV W ee != 0) = true := by simpa using hsh
    go_wp2
    go_ret
    rw [hR.out]
    exact ⟨rfl, hS⟩


set_option maxHeartbeats 1000000 in
theorem valued_least (w : World) (AW : Option Addr) (nW cW : Nat) (W : List Int) (AE : Option Addr) (nE cE : Nat) (ee : List (List EdgeT)) (hW : RdI w AW nW cW W) (hE : RdEE w AE nE cE ee)
    (A : Option Addr) (n c : Nat) (lens : List Nat) (hL : RdLens w A n c lens) :
    Calls Try.prog 36 #[.agg #[.slice AW nW cW, .slice AE nE cE], .slice A n c] w (Makes (.int .i64 (fitsV W ee lens)) w) := by
  have hS0 := below_alloc w (.cells #[.slice AW nW cW, .slice AE nE cE] 25)
  have hcall := hide (shape_any _ AW nW cW W AE nE cE ee (hW.below hS0) (hE.below hS0))
  have hbx : (w.alloc (.cells #[.slice AW nW cW, .slice AE nE cE] 25)).cell? ⟨w.heap.size, 1, none⟩ = some (.slice AE nE cE) := by rw [cell_of_row _ _ _ _ _ _ (heap_alloc_new w _)]; rfl
  have HBX := hide hbx
  clear hbx
  by_cases hsh : shapeV W ee = 0
  all_goals
    go_enter Try.func36, Try.ntmps36
    go_wp2_with fail
    refine hcall.out.mono ?_
    rintro e w1 ⟨rfl, hb1⟩
    have hS := below_step hb1 hS0
    have hc1 := (hb1.cell (p := ⟨w.heap.size, 1, none⟩) (by simp)).trans HBX.out
  · have HSH := hide hsh
    rw [hsh]
    clear hsh hb1 hS0 hcall
    have hlE := hide hE.len
    have hlL := hide hL.len
    have hE63 := hE.le63
    have hL63 := hL.le63
    by_cases hne : n = nE
    · subst hne
      go_wp2_with fail
      go_loop [6, 7, 22] (fun _ _ iv => ∃ i : Nat, i ≤ n ∧ iv = .int .i64 (i : Int) ∧ ∀ k, k < i → lens.getD k 0 = (ee.getD k []).length) (fun _ _ iv => n - (intOf iv).toNat)
      case atStart => exact ⟨0, Nat.zero_le _, rfl, fun _ h => absurd h (by omega)⟩
      case round =>
        obtain ⟨i, hi, rfl, hex⟩ := hrel
        have HX := hide hex
        clear hex
        by_cases hlt : i < n
        · obtain ⟨b, off, rfl, hb, hcells⟩ := (hE.below hS).cells (by omega)
          obtain ⟨Aj, nj, cj, hcell, hrd⟩ := hcells i hlt
          obtain ⟨b2, off2, rfl, hb2, hcells2⟩ := (hL.below hS).cells (by omega)
          obtain ⟨Ai, ei, hcell2, hm63⟩ := hcells2 i hlt
          have hnj63 := hrd.le63
          have HL := hide hrd.len
          clear hcells hcells2 hrd
          generalize hm : lens.getD i 0 = m at *
          have HM := hide hm
          clear hm
          by_cases hq : m = nj
          · subst hq
            have HN : Hid (∀ k, k < i + 1 → lens.getD k 0 = (ee.getD k []).length) := fun k hk => by
              rcases Nat.lt_or_ge k i with h9 | h9
              · exact HX.out k h9
              · obtain rfl : k = i := by omega
                rw [HM.out, HL.out]
            go_wp2
            go_round
            case rel => exact ⟨i + 1, by omega, by go_num, HN.out⟩
            case measure => simp [intOf]; omega
          · have hR : Hid (fitsV W ee lens = 3) := fits_bad HSH.out (lens_ne (i := i) (by rw [hlE.out]; exact hlt) (by rw [HM.out, HL.out]; exact hq))
            have hd : ((m : Int) != (nj : Int)) = true := by simp; omega
            go_wp2
            go_ret
            rw [hR.out]
            exact ⟨rfl, hS⟩
        · have hR : Hid (fitsV W ee lens = 0) := fits_ok HSH.out (lens_eq (by rw [hlL.out, hlE.out]) (fun k hk => HX.out k (by rw [hlE.out] at hk; omega)))
          go_wp2
          go_ret
          rw [hR.out]
          exact ⟨rfl, hS⟩
    · have hR : Hid (fitsV W ee lens = 3) := fits_bad HSH.out (by
        intro h9
        have := congrArg List.length h9
        rw [List.length_map, hlL.out, hlE.out] at this
        exact hne this)
      have hd : ((n : Int) != (nE : Int)) = true := by simp; omega
      go_wp2
      go_ret
      rw [hR.out]
      exact ⟨rfl, hS⟩
  · have hR : Hid (fitsV W ee lens = shapeV W ee) := fits_shape hsh
    have hd : (shapeV W ee != 0) = true := by simpa using hsh
    go_wp2
    go_ret
    rw [hR.out]
    exact ⟨rfl, hS⟩


theorem set_mid {α : Type} (a : List α) (z x : α) (n : Nat) : (a ++ List.replicate (n + 1) z).set a.length x = (a ++ [x]) ++ List.replicate n z := by
  rw [List.set_append_right _ _ (Nat.le_refl _), Nat.sub_self, List.replicate_succ, List.set_cons_zero, List.append_assoc]; rfl
def natI (l : List Nat) : List Int := l.map fun x : Nat => (x : Int)
/-- A call that returns ints in a row of its own. -/
def RetI (zs : List Int) (w : World) (x : Ending) (w' : World) : Prop := ∃ A n c, x = .returned (.slice A n c) ∧ RdI w' A n c zs ∧ Below w.heap.size w w'
/-- Ints that are read. -/
def IsI (zs : List Int) (v : Value) (w : World) : Prop := ∃ A n c, v = .slice A n c ∧ RdI w A n c zs
theorem IsI.lasting {zs : List Int} : ∀ v w w', Below w.heap.size w w' → IsI zs v w → IsI zs v w' := fun _ _ _ hb ⟨A, n, c, h1, h2⟩ => ⟨A, n, c, h1, h2.below hb⟩
def i64s (l : List Nat) : List Value := l.map fun x : Nat => Value.int .i64 (Int.ofNat x)
theorem rdi_of_own {w : World} {base : Nat} {e : TypeId} {A : Option Addr} {n c : Nat} {lens : List Nat} (h : w.ownsRow base e 1 (.slice A n c) n (i64s lens)) (hl : ∀ x ∈ lens, x ≤ 9223372036854775807) : RdI w A n c (natI lens) := by
  have hlen : lens.length = n := by have := h.1; simpa [i64s] using this
  rcases ownsRow_form h with ⟨h1, h2, h3⟩ | ⟨b, c', h1, h2, h3, h4, h5⟩
  · simp only [Value.slice.injEq] at h1
    obtain ⟨rfl, rfl, rfl⟩ := h1
    exact ⟨by simp [natI, hlen], Nat.le_refl _, Nat.zero_le _, fun z hz => by
      obtain ⟨x, hx, rfl⟩ := List.mem_map.1 hz
      have := hl x hx
      omega, fun h9 => absurd h9 (by omega)⟩
  · simp only [Value.slice.injEq, true_and] at h1
    obtain ⟨rfl, rfl⟩ := h1
    refine ⟨by simp [natI, hlen], h4, h5, fun z hz => ?_, fun _ => ⟨b, 0, rfl, h3, fun j hj => ?_⟩⟩
    · obtain ⟨x, hx, rfl⟩ := List.mem_map.1 hz
      have := hl x hx
      omega
    · rw [Nat.zero_add, h.cellAt j (by omega)]
      simp [i64s, natI, List.getD_eq_getElem?_getD, show j < lens.length by omega]

theorem Try.infoInt : (Try.prog.info? 3).map (fun i => (i.zero, i.size, i.bytes)) = some (some (.int .i64 0), 1, 8) := by kernel_rfl
set_option maxHeartbeats 1000000 in
theorem counts_any (w : World) (A : Option Addr) (n c : Nat) (lens : List Nat) (hL : RdLens w A n c lens) (hn : n ≤ 35184372088832) :
    Calls Try.prog 12 #[.slice A n c] w (RetI (natI lens) w) := by
  obtain ⟨i0, hi, hz0, hz1, hz2⟩ := info_parts Try.infoInt
  have h63 := hL.le63
  have HLEN := hide hL.len
  go_enter Try.func12, Try.ntmps12
  go_wp2_with (at_make; refine wpList_make_row _ rfl _ _ _ 3 rfl i0 _ 1 8 Try.underlying22 hi hz0 hz1 hz2 _ _ _ _ n rfl rfl rfl rfl (by omega) (by unfold maxLen; omega) ?_; intro w1 hown1 hb1)
  rw [madeCells_one (show (Value.int .i64 0).cells = #[Value.int .i64 0] from rfl)] at hown1
  go_loopw [4] (fun iv wr => ∃ k : Nat, k ≤ n ∧ iv = .int .i64 (k : Int) ∧ wr.ownsRow w.heap.size 3 1 (.slice (some ⟨w.heap.size, 0, none⟩) n n) n (i64s (lens.take k) ++ List.replicate (n - k) (.int .i64 0)) ∧ Below w.heap.size w wr) (fun iv _ => n - (intOf iv).toNat)
  case atStart => exact ⟨0, Nat.zero_le _, rfl, by simpa [i64s] using hown1, hb1⟩
  case round =>
    clear hown1 hb1
    obtain ⟨k, hk, rfl, hown, hS⟩ := hrel
    by_cases hlt : k < n
    · obtain ⟨b, off, rfl, hb, hcells⟩ := (hL.below hS).cells (by omega)
      obtain ⟨Ai, e, hcell, hm63⟩ := hcells k hlt
      have hst := (hown.stored k (.int .i64 ((lens.getD k 0 : Nat) : Int))).1
      have hE : (i64s (lens.take k) ++ List.replicate (n - k) (Value.int .i64 0)).set k (.int .i64 ((lens.getD k 0 : Nat) : Int)) = i64s (lens.take (k + 1)) ++ List.replicate (n - (k + 1)) (.int .i64 0) := by
        have h1 : (i64s (lens.take k)).length = k := by simp [i64s, HLEN.out]; omega
        have h2 : lens.take (k + 1) = lens.take k ++ [lens.getD k 0] := by
          have h3 : k < lens.length := by rw [HLEN.out]; exact hlt
          rw [List.take_succ_eq_append_getElem h3, List.getD_eq_getElem?_getD, List.getElem?_eq_getElem h3]; rfl
        obtain ⟨q, hq⟩ : ∃ q, n - k = q + 1 := ⟨n - k - 1, by omega⟩
        have h4 := set_mid (i64s (lens.take k)) (Value.int .i64 0) (Value.int .i64 ((lens.getD k 0 : Nat) : Int)) q
        rw [h1] at h4
        rw [hq, h4, h2, show n - (k + 1) = q by omega]
        simp [i64s]
      rw [hE] at hst
      have HST := hide hst
      have hoc := hown.cellAt k (by omega)
      have hoc' : wr.cell? ⟨w.heap.size, k, none⟩ = some (.int .i64 0) := by
        have h1 : (i64s (lens.take k)).length = k := by simp [i64s, HLEN.out]; omega
        rw [hoc, List.getElem?_append_right (by rw [h1]; exact Nat.le_refl _), h1, Nat.sub_self, List.getElem?_replicate, if_pos (by omega)]
      have hof := hown.frozenAt k
      clear hst hE hcells hoc hown
      generalize lens.getD k 0 = m at *
      go_wp2
      go_roundw
      case rel => exact ⟨k + 1, by omega, by go_num, HST.out, hS.setCell (Nat.le_refl _) _⟩
      case measure => simp [intOf]; omega
    · obtain rfl : k = n := by omega
      have hR := rdi_of_own (lens := lens) (by
        have h1 : lens.take k = lens := List.take_of_length_le (by rw [HLEN.out]; exact Nat.le_refl _)
        rw [h1] at hown
        simpa using hown) (fun x hx => by
          obtain ⟨j, hj, rfl⟩ := List.getElem_of_mem hx
          obtain ⟨b, off, _, _, hcells⟩ := hL.cells (by rw [HLEN.out] at hj; omega)
          obtain ⟨_, _, _, h9⟩ := hcells j (by rw [HLEN.out] at hj; exact hj)
          rw [List.getD_eq_getElem?_getD, List.getElem?_eq_getElem hj] at h9
          exact h9)
      clear hown
      go_wp2
      go_ret
      exact ⟨_, _, _, rfl, hR, hS⟩


theorem natI_getD (lens : List Nat) (i : Nat) : (natI lens).getD i 0 = ((lens.getD i 0 : Nat) : Int) := by
  simp only [natI, List.getD_eq_getElem?_getD, List.getElem?_map]
  cases lens[i]? <;> rfl
set_option maxHeartbeats 1000000 in
theorem fits_any (w : World) (AW : Option Addr) (nW cW : Nat) (W : List Int) (AE : Option Addr) (nE cE : Nat) (ee : List (List EdgeT)) (hW : RdI w AW nW cW W) (hE : RdEE w AE nE cE ee)
    (A : Option Addr) (n c : Nat) (lens : List Nat) (hL : RdI w A n c (natI lens)) :
    Calls Try.prog 11 #[.agg #[.slice AW nW cW, .slice AE nE cE], .slice A n c] w (Makes (.int .i64 (fitsV W ee lens)) w) := by
  have hS0 := below_alloc w (.cells #[.slice AW nW cW, .slice AE nE cE] 25)
  have hcall := hide (rshape_any _ AW nW cW W AE nE cE ee (hW.below hS0) (hE.below hS0))
  have hbx : (w.alloc (.cells #[.slice AW nW cW, .slice AE nE cE] 25)).cell? ⟨w.heap.size, 1, none⟩ = some (.slice AE nE cE) := by rw [cell_of_row _ _ _ _ _ _ (heap_alloc_new w _)]; rfl
  have HBX := hide hbx
  have hlL0 : lens.length = n := by have := hL.len; simpa [natI] using this
  clear hbx
  by_cases hsh : shapeV W ee = 0
  all_goals
    go_enter Try.func11, Try.ntmps11
    go_wp2_with fail
    refine hcall.out.mono ?_
    rintro e w1 ⟨rfl, hb1⟩
    have hS := below_step hb1 hS0
    have hc1 := (hb1.cell (p := ⟨w.heap.size, 1, none⟩) (by simp)).trans HBX.out
    have HB0 := hide (show w.heap.size < w1.heap.size from by have := hb1.size; simp at this; omega)
  · have HSH := hide hsh
    rw [hsh]
    clear hsh hb1 hS0 hcall
    have hlE := hide hE.len
    have hlL := hide hlL0
    have hE63 := hE.le63
    have hL63 := hL.le63
    by_cases hne : n = nE
    · subst hne
      clear hlL0
      go_wp2_with fail
      go_loopw [6] (fun iv wr => ∃ i : Nat, i ≤ n ∧ iv = .int .i64 (i : Int) ∧ (∀ k, k < i → lens.getD k 0 = (ee.getD k []).length) ∧ Below w1.heap.size w1 wr) (fun iv _ => n - (intOf iv).toNat)
      case atStart => exact ⟨0, Nat.zero_le _, rfl, fun _ h => absurd h (by omega), Below.refl _ _⟩
      case round =>
        obtain ⟨i, hi, rfl, hex, hS1⟩ := hrel
        have HX := hide hex
        have hS2 := below_step hS1 hS
        have hc2 := (hS1.cell (p := ⟨w.heap.size, 1, none⟩) HB0.out).trans hc1
        clear hex hc1
        by_cases hlt : i < n
        · obtain ⟨b, off, rfl, hb, hcells⟩ := (hE.below hS2).cells (by omega)
          obtain ⟨Aj, nj, cj, hcell, hrd⟩ := hcells i hlt
          obtain ⟨b2, off2, rfl, hb2, hcell2⟩ := (hL.below hS2).at hlt
          have hbd := hL.bd i
          rw [natI_getD] at hcell2 hbd
          have hnj63 := hrd.le63
          have HL := hide hrd.len
          clear hcells hrd
          generalize hm : lens.getD i 0 = m at *
          have HM := hide hm
          clear hm
          have hb1 : (i : Int) < (n : Int) := by omega
          by_cases hq : m = nj
          · subst hq
            have HN : Hid (∀ k, k < i + 1 → lens.getD k 0 = (ee.getD k []).length) := fun k hk => by
              rcases Nat.lt_or_ge k i with h9 | h9
              · exact HX.out k h9
              · obtain rfl : k = i := by omega
                rw [HM.out, HL.out]
            go_wp2_with fail
            go_quiet (fail)
            go_wp2
            go_roundw
            case rel => exact ⟨i + 1, by omega, by go_num, HN.out, below_drewN hS1 _⟩
            case measure => simp [intOf]; omega
          · have hR : Hid (fitsV W ee lens = 3) := fits_bad HSH.out (lens_ne (i := i) (by rw [hlE.out]; exact hlt) (by rw [HM.out, HL.out]; exact hq))
            have hd : ((m : Int) != (nj : Int)) = true := by simp; omega
            go_wp2_with fail
            go_quiet (fail)
            go_wp2
            go_ret
            rw [hR.out]
            exact ⟨rfl, below_drewN hS2 _⟩
        · have hR : Hid (fitsV W ee lens = 0) := fits_ok HSH.out (lens_eq (by rw [hlL.out, hlE.out]) (fun k hk => HX.out k (by rw [hlE.out] at hk; omega)))
          go_wp2
          go_ret
          rw [hR.out]
          exact ⟨rfl, hS2⟩
    · have hR : Hid (fitsV W ee lens = 3) := fits_bad HSH.out (by
        intro h9
        have := congrArg List.length h9
        rw [List.length_map, hlL.out, hlE.out] at this
        exact hne this)
      have hd : ((n : Int) != (nE : Int)) = true := by simp; omega
      clear hlL0
      go_wp2
      go_ret
      rw [hR.out]
      exact ⟨rfl, hS⟩
  · have hR : Hid (fitsV W ee lens = shapeV W ee) := fits_shape hsh
    have hd : (shapeV W ee != 0) = true := by simpa using hsh
    clear hlL0
    go_wp2
    go_ret
    rw [hR.out]
    exact ⟨rfl, hS⟩

end Go.Proofs.Ytjadgomakoaibaa
