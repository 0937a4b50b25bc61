/- The walk of nat.step: one limb of a quotient. -/
import Derived.Test.YtfggecdgnidhfaaDoorShift
import Derived.Deep.CutRange
namespace Go.Proofs.YtfggecdgnidhfaaDoor
open Go.RowKit

/-- The window of k + 1 limbs from i on. -/
def win (uu : List Nat) (i k : Nat) : List Nat := (uu.drop i).take (k + 1)
theorem win_len {uu : List Nat} {i k : Nat} (h : i + k + 1 ≤ uu.length) : (win uu i k).length = k + 1 := by
  unfold win; rw [List.length_take, List.length_drop]; omega
theorem win_lim (uu : List Nat) (i k j : Nat) (h : j ≤ k) : lim (win uu i k) j = lim uu (i + j) := by
  unfold win; rw [getD_take _ _ _ (by omega), getD_drop]
theorem win_set (uu : List Nat) (i k j x : Nat) : win (uu.set (i + j) x) i k = (win uu i k).set j x := by
  unfold win
  rw [List.drop_set, if_neg (by omega), List.take_set]
  congr 1
  omega
theorem win_lims {uu : List Nat} (i k : Nat) (h : Lims uu) : Lims (win uu i k) := fun x hx => h x (List.mem_of_mem_drop (List.mem_of_mem_take hx))
/-- Outside the window the row is as it was. -/
def Beside (uu uu' : List Nat) (i k : Nat) : Prop := uu'.take i = uu.take i ∧ uu'.drop (i + k + 1) = uu.drop (i + k + 1)
theorem Beside.refl (uu : List Nat) (i k : Nat) : Beside uu uu i k := ⟨rfl, rfl⟩
theorem Beside.set {uu uu' : List Nat} {i k : Nat} (h : Beside uu uu' i k) (j x : Nat) (hj : j ≤ k) : Beside uu (uu'.set (i + j) x) i k :=
  ⟨by rw [List.take_set_of_le (by omega)]; exact h.1, by rw [List.drop_set_of_lt (by omega)]; exact h.2⟩

theorem only_refl (w : World) (g : Nat) : w.grownBy w (some g) := World.grownBy.refl w _
theorem only_drewN {a w : World} {row : Option Nat} (h : a.grownBy w row) (n : Nat) : a.grownBy (w.drewN n) row := ⟨h.os, h.tape, h.output, h.size, h.block⟩
theorem only_setCell {a w : World} {g k : Nat} (h : a.grownBy w (some g)) (u : Value) : a.grownBy (w.setCell ⟨g, k, none⟩ u) (some g) :=
  ⟨h.os, h.tape, h.output, by simpa [World.setCell] using h.size, fun i hi hne => (Below.heap_setCell w ⟨g, k, none⟩ u i (by
    rintro rfl
    exact hne rfl)).trans (h.block i hi hne)⟩
/-- A row in another block than the one that is written. -/
theorem Own.far {w w' : World} {base : Nat} {e : TypeId} {q g n c : Nat} {l : List Nat} (h : Own w base e (some ⟨q, 0, none⟩) n c l) (hg : w.grownBy w' (some g)) (hne : q ≠ g) : Own w' base e (some ⟨q, 0, none⟩) n c l := by
  refine ⟨⟨h.row.1, ?_⟩, h.lims⟩
  rcases h.row.2 with ⟨h1, _⟩ | ⟨g', cap, cur, h1, hbg, hk, r⟩
  · simp at h1
  · simp at h1
    obtain ⟨rfl, rfl⟩ := h1
    exact .inr ⟨q, c, cur, rfl, hbg, by rw [hg.block q (Array.getElem?_eq_some_iff.1 hk).1 (by simpa using hne)]; exact hk, r⟩
theorem Own.setFar {w : World} {base : Nat} {e : TypeId} {q g k n c : Nat} {l : List Nat} (h : Own w base e (some ⟨q, 0, none⟩) n c l) (hne : q ≠ g) (u : Value) : Own (w.setCell ⟨g, k, none⟩ u) base e (some ⟨q, 0, none⟩) n c l :=
  h.far (only_setCell (only_refl w g) u) hne

theorem ret_u32 {a b : Int} (h : a = b) : Ending.returned (.int .u32 a) = .returned (.int .u32 b) := by rw [h]

/-- The result of a step. -/
def RetStep (w w0 : World) (g N C i k : Nat) (uu vv : List Nat) (x : Ending) (w' : World) : Prop :=
  ∃ uu', w.grownBy w' (some g) ∧ x = .returned (.int .u32 ((val (win uu i k) / val vv : Nat) : Int)) ∧ Own w' w0.heap.size 40 (some ⟨g, 0, none⟩) N C uu' ∧ Beside uu uu' i k ∧ val (win uu' i k) = val (win uu i k) % val vv ∧ Below w0.heap.size w0 w'

theorem borrow_u64 {a y b : Nat} (ha : a < 4294967296) (hy : y < 4294967296) (hb : b ≤ 1) :
    ∃ x b', x + y + b = a + 4294967296 * b' ∧ x < 4294967296 ∧ b' ≤ 1 ∧ IntKind.u64.wrap (IntKind.u64.wrap ((a : Int) - (y : Int)) - (b : Int)) = (((a + 18446744073709551616 - y - b) % 18446744073709551616 : Nat) : Int) ∧
      ((a + 18446744073709551616 - y - b) % 18446744073709551616) % 4294967296 = x ∧ ((a + 18446744073709551616 - y - b) % 18446744073709551616) / 9223372036854775808 = b' := by
  have hw : IntKind.u64.wrap (IntKind.u64.wrap ((a : Int) - (y : Int)) - (b : Int)) = (((a + 18446744073709551616 - y - b) % 18446744073709551616 : Nat) : Int) := by
    rw [wrap_u64', wrap_u64']; omega
  rcases Nat.lt_or_ge a (y + b) with h | h
  · exact ⟨a + 4294967296 - y - b, 1, by omega, by omega, by omega, hw, by omega, by omega⟩
  · exact ⟨a - y - b, 0, by omega, by omega, by omega, hw, by omega, by omega⟩

theorem trial_small {a0 a1 b1 : Nat} (h : a0 ≤ b1) (h1 : a1 < 4294967296) (hb : b1 ≠ 0) : (a0 * 4294967296 + a1) / b1 ≤ 8589934592 ∧ (a0 * 4294967296 + a1) % b1 < b1 := by
  have h2 : a0 * 4294967296 ≤ b1 * 4294967296 := Nat.mul_le_mul_right _ h
  have h3 := Nat.div_mul_le_self (a0 * 4294967296 + a1) b1
  refine ⟨?_, Nat.mod_lt _ (Nat.pos_of_ne_zero hb)⟩
  generalize (a0 * 4294967296 + a1) / b1 = q at *
  rcases Nat.lt_or_ge 8589934592 q with h4 | h4
  · have h5 : 8589934593 * b1 ≤ q * b1 := Nat.mul_le_mul_right _ h4
    omega
  · exact h4

set_option maxHeartbeats 2000000 in
set_option maxRecDepth 10000 in
theorem step_any (w0 w : World) (g N C i k cu cv : Nat) (uu vv : List Nat) (V : Option Addr) (hown : Own w w0.heap.size 40 (some ⟨g, 0, none⟩) N C uu) (hv : Rd w0 V k cv vv) (hS : Below w0.heap.size w0 w) (hg : w0.heap.size ≤ g)
    (hi : i + k + 1 ≤ N) (hN : N ≤ 1000000) (hok : StepOk (win uu i k) vv k) :
    Calls Tryd.prog 72 #[.slice (some ⟨g, i, none⟩) (k + 1) cu, .slice V k cv] w (RetStep w w0 g N C i k uu vv) := by
  have hk2 := hok.hk
  obtain ⟨K, rfl⟩ : ∃ K, k = K + 2 := ⟨k - 2, by omega⟩
  have HK := hide hok
  have hul := hown.len
  have htop := hok.top
  obtain ⟨b, off, rfl, hb, -⟩ := hv.at (k := 0) (by omega)
  have hc1 := (hv.below hS).cellAt (k := K + 1) (by omega)
  have hc2 := (hv.below hS).cellAt (k := K) (by omega)
  have hu0 := hown.cell (k := i + (K + 2)) (by omega)
  have hu1 := hown.cell (k := i + (K + 1)) (by omega)
  have hu2 := hown.cell (k := i + K) (by omega)
  have e0 := win_lim uu i (K + 2) (K + 2) (Nat.le_refl _)
  have e1 := win_lim uu i (K + 2) (K + 1) (by omega)
  have e2 := win_lim uu i (K + 2) K (by omega)
  rw [← e0] at hu0
  rw [← e1] at hu1
  rw [← e2] at hu2
  have hx0 := hok.lu.getD (K + 2)
  have hx1 := hok.lu.getD (K + 1)
  have hx2 := hok.lu.getD K
  have hy1 := hok.lv.getD (K + 1)
  have hy2 := hok.lv.getD K
  have ht := trial_start hok
  simp only [show K + 2 - 1 = K + 1 from rfl] at ht htop
  have HT := hide ht
  obtain ⟨a0, ha0⟩ : ∃ a, a = lim (win uu i (K + 2)) (K + 2) := ⟨_, rfl⟩
  obtain ⟨a1, ha1⟩ : ∃ a, a = lim (win uu i (K + 2)) (K + 1) := ⟨_, rfl⟩
  obtain ⟨a2, ha2⟩ : ∃ a, a = lim (win uu i (K + 2)) K := ⟨_, rfl⟩
  obtain ⟨b1, hb1⟩ : ∃ a, a = lim vv (K + 1) := ⟨_, rfl⟩
  obtain ⟨b2, hb2⟩ : ∃ a, a = lim vv K := ⟨_, rfl⟩
  rw [← ha0] at hu0 hx0
  rw [← ha1] at hu1 hx1
  rw [← ha2] at hu2 hx2
  rw [← hb1] at hc1 hy1 htop
  rw [← hb2] at hc2 hy2
  have HA0 := hide ha0
  have HA1 := hide ha1
  have HA2 := hide ha2
  have HB1 := hide hb1
  have HB2 := hide hb2
  have hor := shl_or_u64 a0 a1 hx0 hx1
  clear hok e0 e1 e2 ht ha0 ha1 ha2 hb1 hb2
  obtain ⟨hqb, hrb⟩ := trial_small (show a0 ≤ b1 by rw [HA0.out, HB1.out]; exact HK.out.topLe) hx1 htop
  rw [← HA0.out, ← HA1.out, ← HB1.out] at HT
  go_enter Tryd.func72, Tryd.ntmps72
  go_wp2_with fail
  go_quiet (fail)
  have HOW := hown.drewN nq
  go_wp2_with fail
  go_loopw [7, 8] (fun qv rv wx => ∃ q r : Nat, w.grownBy wx (some g) ∧ qv = .int .u64 (q : Int) ∧ rv = .int .u64 (r : Int) ∧ q ≤ 8589934592 ∧ r ≤ 8589934592 ∧ TrialAt (win uu i (K + 2)) vv (K + 2) q r ∧ Own wx w0.heap.size 40 (some ⟨g, 0, none⟩) N C uu ∧ Below w0.heap.size w0 wx) (fun qv _ _ => (intOf qv).toNat)
  case atStart => exact ⟨_, _, only_drewN (only_refl _ _) _, by simp, by simp, hqb, by omega, HT.out, HOW, below_drewN hS _⟩
  case round =>
    clear HOW hown hS hu0 hu1 hu2 hc1 hc2 HT hqb hrb hor hx0 hx1
    obtain ⟨q, r, hon, rfl, rfl, hq, hr, htr, hown, hS⟩ := hrel
    have HTR := hide htr
    clear htr
    have hc1 := (hv.below hS).cellAt (k := K + 1) (by omega)
    have hc2 := (hv.below hS).cellAt (k := K) (by omega)
    have hu2 := hown.cell (k := i + K) (by omega)
    rw [← win_lim uu i (K + 2) K (by omega), ← HA2.out] at hu2
    rw [← HB1.out] at hc1
    rw [← HB2.out] at hc2
    by_cases hgo : r < 4294967296 ∧ (4294967296 ≤ q ∨ r * 4294967296 + a2 < q * b2)
    · obtain ⟨hrB, hcase⟩ := hgo
      have hst := trial_step HK.out HTR.out (by simp only [show K + 2 - 2 = K from rfl]; rw [← HA2.out, ← HB2.out]; exact hcase)
      simp only [show K + 2 - 1 = K + 1 from rfl] at hst
      rw [← HB1.out] at hst
      obtain ⟨hq1, hst⟩ := hst
      have HST := hide hst
      clear hst
      by_cases hqB : 4294967296 ≤ q
      · have hd1 : decide ((r : Int) < 4294967296) = true := decide_eq_true (by omega)
        have hd2 : decide ((4294967296 : Int) ≤ (q : Int)) = true := decide_eq_true (by omega)
        go_wp2_with fail
        go_quiet (fail)
        go_wp2
        go_roundw
        case rel => exact ⟨q - 1, r + b1, only_drewN hon _, by go_num, by go_num, by omega, by omega, HST.out, hown.drewN _, below_drewN hS _⟩
        case measure => simp [intOf]; omega
      · have hgt : r * 4294967296 + a2 < q * b2 := by omega
        obtain ⟨p, hp⟩ : ∃ p, p = q * b2 := ⟨_, rfl⟩
        have hpI : (q : Int) * (b2 : Int) = (p : Int) := by rw [hp]; simp
        have hp64 : p < 18446744073709551616 := by
          have : q * b2 ≤ 4294967295 * 4294967295 := Nat.mul_le_mul (by omega) (by omega)
          omega
        have hor2 := shl_or_u64 r a2 hrB hx2
        obtain ⟨t, htt⟩ : ∃ t, t = r * 4294967296 + a2 := ⟨_, rfl⟩
        rw [← htt] at hor2 hgt
        rw [← hp] at hgt
        have hd1 : decide ((r : Int) < 4294967296) = true := decide_eq_true (by omega)
        have hd2 : decide ((4294967296 : Int) ≤ (q : Int)) = false := decide_eq_false (by omega)
        have hd3 : decide ((t : Int) < (p : Int)) = true := decide_eq_true (by omega)
        have hw1 : IntKind.u64.wrap (p : Int) = (p : Int) := IntWalk.u64_in _ (by omega)
        have hw2 : IntKind.u64.wrap ((q : Int) * (b2 : Int)) = (p : Int) := by rw [hpI]; exact hw1
        have hw3 : IntKind.u64.wrap ((r : Int) * 4294967296) = (r : Int) * 4294967296 := IntWalk.u64_in _ (by omega)
        clear hcase hgt hp htt hpI
        go_wp2_with fail
        go_quiet (fail)
        have h3 : (t : Int) < (p : Int) := of_decide_eq_true hd3
        clear hw1 hw2 hw3 hor2 hd1 hd2 hd3 hp64
        go_wp2
        go_roundw
        case rel => exact ⟨q - 1, r + b1, only_drewN hon _, by go_num, by go_num, by omega, by omega, HST.out, hown.drewN _, below_drewN hS _⟩
        case measure => simp [intOf]; omega
    · have hend : q < 4294967296 ∧ (q = val (win uu i (K + 2)) / val vv ∨ q = val (win uu i (K + 2)) / val vv + 1) := by
        refine trial_end HK.out HTR.out ?_ (by omega)
        simp only [show K + 2 - 2 = K from rfl]
        rw [← HA2.out, ← HB2.out]
        omega
      have HQ := hide hend
      have hqB := hend.1
      clear hend
      by_cases hrB : 4294967296 ≤ r
      focus
        have hd1 : decide ((r : Int) < 4294967296) = false := decide_eq_false (by omega)
        clear hgo
        go_wp2_with fail
        go_quiet (fail)
        clear hd1
        have hr9 : ¬ (r : Int) < 4294967296 := by omega
        have HOW := hown.drewN nq
        have HSB := below_drewN hS nq
        have HON := only_drewN hon nq
        have HS0 := hide (subMul_zero (win uu i (K + 2)) vv q (win_lims i (K + 2) hown.lims))
        clear hown hS hon hc1 hc2 hu2
        go_wp2_with fail
        clear hr9 hrB
      rotate_left
      focus
        have hgt : q * b2 ≤ r * 4294967296 + a2 := by omega
        obtain ⟨p, hp⟩ : ∃ p, p = q * b2 := ⟨_, rfl⟩
        have hpI : (q : Int) * (b2 : Int) = (p : Int) := by rw [hp]; simp
        have hp64 : p < 18446744073709551616 := by
          have : q * b2 ≤ 4294967295 * 4294967295 := Nat.mul_le_mul (by omega) (by omega)
          omega
        have hor2 := shl_or_u64 r a2 (by omega) hx2
        obtain ⟨t, htt⟩ : ∃ t, t = r * 4294967296 + a2 := ⟨_, rfl⟩
        rw [← htt] at hor2 hgt
        rw [← hp] at hgt
        have hd1 : decide ((r : Int) < 4294967296) = true := decide_eq_true (by omega)
        have hd2 : decide ((4294967296 : Int) ≤ (q : Int)) = false := decide_eq_false (by omega)
        have hd3 : decide ((t : Int) < (p : Int)) = false := decide_eq_false (by omega)
        have hw1 : IntKind.u64.wrap (p : Int) = (p : Int) := IntWalk.u64_in _ (by omega)
        have hw2 : IntKind.u64.wrap ((q : Int) * (b2 : Int)) = (p : Int) := by rw [hpI]; exact hw1
        have hw3 : IntKind.u64.wrap ((r : Int) * 4294967296) = (r : Int) * 4294967296 := IntWalk.u64_in _ (by omega)
        clear hgo hgt hp htt hpI
        go_wp2_with fail
        go_quiet (fail)
        have h3 : ¬ (t : Int) < (p : Int) := of_decide_eq_false hd3
        have HOW := hown.drewN nq
        have HSB := below_drewN hS nq
        have HON := only_drewN hon nq
        have HS0 := hide (subMul_zero (win uu i (K + 2)) vv q (win_lims i (K + 2) hown.lims))
        clear hown hS hon hc1 hc2 hu2
        clear hw1 hw2 hw3 hor2 hd1 hd2 hd3 hp64
        go_wp2_with fail
        clear h3 hrB
      all_goals
        go_loopw [9, 10, 11, 12, 13, 86] (fun bv cv _ _ _ iv wx => ∃ (j c bo : Nat) (o : List Nat), w.grownBy wx (some g) ∧ j ≤ K + 2 ∧ iv = .int .i64 (j : Int) ∧ cv = .int .u64 (c : Int) ∧ bv = .int .u64 (bo : Int) ∧ c < 4294967296 ∧ bo ≤ 1 ∧ Own wx w0.heap.size 40 (some ⟨g, 0, none⟩) N C o ∧ Beside uu o i (K + 2) ∧ SubMulAt (win uu i (K + 2)) vv (win o i (K + 2)) q j c bo ∧ Below w0.heap.size w0 wx) (fun _ _ _ _ _ iv _ => K + 2 - (intOf iv).toNat)
        case atStart => exact ⟨0, 0, 0, uu, HON, by omega, rfl, rfl, rfl, by omega, by omega, HOW, Beside.refl _ _ _, HS0.out, HSB⟩
        case round =>
          clear HOW HSB HS0 HON
          obtain ⟨j, c, bo, o, hon, hj, rfl, rfl, rfl, hc, hbo, hown, hbe, hsm, hS⟩ := hrel
          have HSM := hide hsm
          have HBE := hide hbe
          have hol : o.length = N := hown.len
          have hwl := win_len (uu := uu) (i := i) (k := K + 2) (by omega)
          have hwo := win_len (uu := o) (i := i) (k := K + 2) (by omega)
          have HWL := hide hwl
          have HWO := hide hwo
          clear hsm hbe hwl hwo hol
          by_cases hlt : j < K + 2
          · have hcv := (hv.below hS).cellAt (k := j) hlt
            have hcu := hown.cell (k := i + j) (by omega)
            have hof := hown.free (i + j)
            have hyv := HK.out.lv.getD j
            have hxu := HK.out.lu.getD j
            have hea : lim o (i + j) = lim (win uu i (K + 2)) j := by
              rw [← win_lim o i (K + 2) j (by omega)]
              exact lim_eq_of_drop HSM.out.2.1
            rw [hea] at hcu
            have hpm : q * lim vv j ≤ 4294967295 * 4294967295 := Nat.mul_le_mul (by omega) (by omega)
            obtain ⟨p, hp⟩ : ∃ p, p = q * lim vv j + c := ⟨_, rfl⟩
            have hpI : (q : Int) * (lim vv j : Int) + (c : Int) = (p : Int) := by rw [hp]; simp
            have hp64 : p < 18446744073709551616 := by omega
            have hwp : IntKind.u64.wrap (IntKind.u64.wrap ((q : Int) * (lim vv j : Int)) + (c : Int)) = (p : Int) := by
              rw [IntWalk.u64_in ((q : Int) * (lim vv j : Int)) (by constructor <;> omega), hpI]
              exact IntWalk.u64_in _ (by omega)
            clear hpI
            obtain ⟨x, b', hx1, hx2, hb2, hx3⟩ := borrow_u64 (a := lim (win uu i (K + 2)) j) (y := p % 4294967296) (b := bo) hxu (Nat.mod_lt _ (by omega)) hbo
            have hst := subMul_step (p := p) HSM.out (by rw [HWL.out]; omega) hp hqB HK.out.lv hx1 hx2 hb2
            rw [← win_set] at hst
            have HST := hide hst
            have HBS := hide (HBE.out.set j x (by omega))
            clear hst hp hx1 hpm hea
            obtain ⟨hwr, hlo, hhi⟩ := hx3
            obtain ⟨dd, hdd⟩ : ∃ dd, dd = (lim (win uu i (K + 2)) j + 18446744073709551616 - p % 4294967296 - bo) % 18446744073709551616 := ⟨_, rfl⟩
            rw [← hdd] at hwr hlo hhi
            have hdd64 : dd < 18446744073709551616 := by rw [hdd]; exact Nat.mod_lt _ (by omega)
            rw [show ((p % 4294967296 : Nat) : Int) = (p : Int) % 4294967296 by simp] at hwr
            clear hdd
            go_wp2
            go_roundw
            case rel => exact ⟨j + 1, p / 4294967296, b', _, only_setCell hon _, by omega, by go_num, by simp, by rw [← hhi]; simp, by omega, hb2, hown.setInt (i + j) hx2 (by rw [← hlo]; simp), HBS.out, HST.out, hS.setCell hg _⟩
            case measure => simp [intOf]; omega
          · obtain rfl : j = K + 2 := by omega
            have hcu := hown.cell (k := i + (K + 2)) (by omega)
            have hof := hown.free (i + (K + 2))
            have hea : lim o (i + (K + 2)) = a0 := by
              rw [← win_lim o i (K + 2) (K + 2) (by omega), HA0.out]
              exact lim_eq_of_drop HSM.out.2.1
            rw [hea] at hcu
            have hx0 : a0 < 4294967296 := by rw [HA0.out]; exact HK.out.lu.getD (K + 2)
            clear hea
            rcases HQ.out.2 with hq1 | hq1
            · obtain ⟨hle, hval⟩ := subMul_right HSM.out HK.out hq1
              rw [← HA0.out] at hle hval
              rw [← win_set] at hval
              have HVAL := hide hval
              have HQ1 := hide hq1
              have HBS := hide (HBE.out.set (K + 2) (a0 - (c + bo)) (Nat.le_refl _))
              clear hval hq1
              have ht63 : (((a0 : Int) - (c : Int) - (bo : Int)) / 9223372036854775808 == 0) = true := by simp; omega
              go_wp2
              go_ret
              exact ⟨_, only_setCell hon _, by rw [← HQ1.out]; rfl, hown.setInt (i + (K + 2)) (x := a0 - (c + bo)) (by omega) (by omega), HBS.out, HVAL.out, hS.setCell hg _⟩
            · obtain ⟨hcb, hval⟩ := subMul_over HSM.out HK.out hq1
              rw [← HA0.out] at hcb
              have HVAL := hide hval
              have HQ1 := hide hq1
              have hq0 : 1 ≤ q := by rw [hq1]; exact Nat.le_add_left 1 _
              have hww : IntKind.u64.wrap (IntKind.u64.wrap ((a0 : Int) - (c : Int)) - (bo : Int)) = 18446744073709551615 := by
                rw [wrap_u64', wrap_u64']; omega
              have hox := hown.setInt (i + (K + 2)) (x := 4294967295) (z := 4294967295) (by omega) rfl
              have HBX := hide (HBE.out.set (K + 2) 4294967295 (Nat.le_refl _))
              obtain ⟨ox, hoxe⟩ : ∃ ox, ox = o.set (i + (K + 2)) 4294967295 := ⟨_, rfl⟩
              have HOXE := hide hoxe
              rw [← hoxe] at hox HBX
              have hSX := hS.setCell (p := ⟨g, i + (K + 2), none⟩) hg (Value.int .u32 4294967295)
              have hONX := only_setCell (k := i + (K + 2)) hon (Value.int .u32 4294967295)
              clear hval hq1 hcb hoxe
              go_wp2_with fail
              clear hww
              go_loopw [10, 15, 16, 140] (fun cv _ _ iv wx => ∃ (j c : Nat) (o3 : List Nat), w.grownBy wx (some g) ∧ j ≤ K + 2 ∧ iv = .int .i64 (j : Int) ∧ cv = .int .u64 (c : Int) ∧ c ≤ 1 ∧ Own wx w0.heap.size 40 (some ⟨g, 0, none⟩) N C o3 ∧ Beside uu o3 i (K + 2) ∧ SumAt (win ox i (K + 2)) vv (win o3 i (K + 2)) j c ∧ (win o3 i (K + 2)).drop j = (win ox i (K + 2)).drop j ∧ Below w0.heap.size w0 wx) (fun _ _ _ iv _ => K + 2 - (intOf iv).toNat)
              case atStart => exact ⟨0, 0, ox, hONX, by omega, rfl, rfl, by omega, hox, HBX.out, sumAt_zero _ _ _, rfl, hSX⟩
              case round =>
                clear hox hSX hONX hcu hof hown hS hon hc hbo
                obtain ⟨j, c3, o3, hon, hj, rfl, rfl, hc3, hown, hbe, hsm, hdr, hS⟩ := hrel
                have HSM3 := hide hsm
                have HBE3 := hide hbe
                have HDR := hide hdr
                have hwo3 := win_len (uu := o3) (i := i) (k := K + 2) (by rw [hown.len]; exact hi)
                have HWO3 := hide hwo3
                clear hsm hbe hdr hwo3
                have hcu := hown.cell (k := i + j) (by omega)
                have hof := hown.free (i + j)
                by_cases hlt : j < K + 2
                · have hcv := (hv.below hS).cellAt (k := j) hlt
                  have hyv := HK.out.lv.getD j
                  have hxu := hown.lims.getD (i + j)
                  have hea : lim (win ox i (K + 2)) j = lim o3 (i + j) := by
                    rw [← win_lim o3 i (K + 2) j (by omega)]
                    exact (lim_eq_of_drop HDR.out).symm
                  obtain ⟨x, hx⟩ : ∃ x, x = lim o3 (i + j) := ⟨_, rfl⟩
                  obtain ⟨y, hy⟩ : ∃ y, y = lim vv j := ⟨_, rfl⟩
                  rw [← hx] at hcu hxu hea
                  rw [← hy] at hcv hyv
                  have HST3 := hide (sumAt_step HSM3.out (by rw [HWO3.out]; omega) (s := x + y + c3) (by rw [hea, ← hy]))
                  rw [← win_set] at HST3
                  have HDR3 : Hid ((win (o3.set (i + j) ((x + y + c3) % 4294967296)) i (K + 2)).drop (j + 1) = (win ox i (K + 2)).drop (j + 1)) := by
                    rw [Hid, win_set, drop_set_succ, ← List.drop_drop, ← List.drop_drop, HDR.out]
                  have HBS3 := hide (HBE3.out.set j ((x + y + c3) % 4294967296) (by omega))
                  clear hea hx hy
                  obtain ⟨s, hs⟩ : ∃ s, s = x + y + c3 := ⟨_, rfl⟩
                  have hs64 : s < 8589934592 := by omega
                  rw [← hs] at HST3 HDR3 HBS3
                  have HSS : Hid ((x : Int) + (y : Int) + (c3 : Int) = (s : Int)) := by rw [Hid, hs]; simp
                  clear hs
                  go_wp2
                  go_quiet (fail)
                  go_wp2
                  go_roundw
                  case rel => exact ⟨j + 1, s / 4294967296, _, only_setCell (only_drewN hon _) _, by omega, by go_num, by rw [HSS.out]; simp, by omega, (hown.drewN _).setInt (i + j) (Nat.mod_lt s (by omega)) (by rw [HSS.out]; simp), HBS3.out, HST3.out, HDR3.out, (below_drewN hS _).setCell hg _⟩
                  case measure => simp [intOf]; omega
                · obtain rfl : j = K + 2 := by omega
                  have h9 : lim o3 (i + (K + 2)) = 4294967295 := by
                    rw [← win_lim o3 i (K + 2) (K + 2) (by omega), lim_eq_of_drop HDR.out, HOXE.out, win_set, getD_set_eq _ _ _ (by rw [HWO.out]; omega)]
                  rw [h9] at hcu
                  have hsum := HSM3.out
                  unfold SumAt at hsum
                  rw [val_take_all (l := vv) (by rw [HK.out.hv]; exact Nat.le_refl _), HOXE.out, win_set, take_set_ge _ _ _ _ (Nat.le_refl _)] at hsum
                  obtain ⟨rfl, hval⟩ := addBack_end HK.out HVAL.out hsum (win_lims i (K + 2) hown.lims) hc3 HWO3.out
                  rw [← win_set] at hval
                  have HV3 := hide hval
                  have HBS3 := hide (HBE3.out.set (K + 2) 0 (Nat.le_refl _))
                  clear hval hsum h9 hc3
                  go_wp2
                  go_ret
                  exact ⟨_, only_setCell hon _, by rw [show val (win uu i (K + 2)) / val vv = q - 1 by rw [HQ1.out]; rfl]; exact ret_u32 (by omega), hown.setInt (i + (K + 2)) (x := 0) (by omega) (by decide), HBS3.out, HV3.out, hS.setCell hg _⟩
end Go.Proofs.YtfggecdgnidhfaaDoor
