/- Polynomials brought to their form: the walks of enumerator and Poly. -/
import Derived.Test.YtonimfogmplgdaaPolyV
import Derived.Test.YtonimfogmplgdaaRefDiv
namespace Go.Proofs.Ytonimfogmplgdaa
open Go.RowKit
theorem limbs_pos_iff {N n : Nat} {A : Option Addr} {c : Nat} {w : World} (h : Rd w A n c (limbs N)) : n = 0 ↔ N = 0 := by
  have h1 := h.len
  constructor
  · intro h2
    have h3 : limbs N = [] := List.eq_nil_of_length_eq_zero (by omega)
    rw [← val_limbs N, h3]; rfl
  · intro h2
    subst h2
    rw [limbs_zero] at h1
    exact h1.symm
set_option maxHeartbeats 4000000 in
set_option maxRecDepth 10000 in
theorem enumerator_any (w : World) (A : Option Addr) (n c : Nat) (ll : List (List Nat)) (K : Nat) (h : RdL w A n c ll) (hK : ∀ k, (ll.getD k []).length ≤ K) (hK1 : K ≤ 100000) (hn : n ≤ 100000) :
    Calls Try.prog 48 #[.slice A n c] w (RetP (trimN (ll.map val)) K w) := by
  obtain ⟨i0, hy0, hy1, hy2, hy3⟩ := info_parts Try.infoNatP
  obtain ⟨xs, hxs⟩ : ∃ xs, xs = ll.map val := ⟨_, rfl⟩
  have hxl : xs.length = n := by rw [hxs, List.length_map]; exact h.len
  have hco : ∀ k, xs.getD k 0 = val (ll.getD k []) := fun k => by rw [hxs]; exact map_val_co ll k
  rw [← hxs]
  have HXL := hide hxl
  have HCO := hide hco
  have HK := hide hK
  clear hxs hxl hco hK
  have h63 := h.le63
  go_enter Try.func48, Try.ntmps48
  go_wp2_with (at_make; refine wpList_make_row _ rfl _ _ _ 23 rfl i0 _ 1 24 Try.underlying29 hy0 hy1 hy2 hy3 _ _ _ _ n rfl rfl rfl rfl (by omega) (by unfold maxLen; omega) ?_; intro w1 hown1 hb1)
  rw [madeCells_one (show (Value.slice none 0 0).cells = #[Value.slice none 0 0] from rfl)] at hown1
  have hO := OwnV.made (base := w.heap.size) K hown1
  clear hown1
  go_loopw [4, 5, 6, 12] (fun nv _ _ iv wr => ∃ (i m : Nat), i ≤ n ∧ iv = .int .i64 (i : Int) ∧ nv = .int .i64 (m : Int) ∧ m = (trimN (xs.take i)).length ∧ OwnV K wr w.heap.size w.heap.size n (tkL n xs i) ∧ Below w.heap.size w wr) (fun _ _ _ iv _ => n - (intOf iv).toNat)
  case atStart => exact ⟨0, 0, Nat.zero_le _, rfl, rfl, rfl, by rw [tkL_zero]; exact hO, hb1⟩
  case round =>
    clear hO hb1
    obtain ⟨i, m, hi, rfl, rfl, hm, hO, hS⟩ := hrel
    have HM := hide hm
    clear hm
    by_cases hlt : i < n
    · obtain ⟨b, off, Aj, nj, cj, rfl, hb, hcell0, hrd0⟩ := h.at hlt
      have hcell := (hS.cell (p := ⟨b, off + i, none⟩) hb).trans hcell0
      have hrd := hrd0.below hS
      have hnj : nj ≤ K := by rw [← hrd0.len]; exact HK.out i
      have HST := hide (trimN_step (l := xs) (i := i) (by have := HXL.out; omega))
      have HV := hide (HCO.out i)
      clear hcell0 hrd0
      go_wp2_with fail
      refine (trim1 hrd (by omega)).mono ?_
      rintro e w2 ⟨A1, n1, c1, rfl, h1, hb2, hn1⟩
      have hO2 := hO.below hb2
      obtain ⟨A0, m0, c0, hc0, _, _, hf0⟩ := hO2.cell hlt
      have hO3 := hO2.store hlt h1 (by omega)
      rw [tkL_set n xs i _ HV.out] at hO3
      have hS3 := (hS.trans (hb2.mono hS.size)).setCell (p := ⟨w.heap.size, i, none⟩) (Nat.le_refl _) (.slice A1 n1 c1)
      have HO := hide (And.intro hO3 hS3)
      have hz := limbs_pos_iff h1
      clear hcell hrd hO hO2 hO3 hS3 h1 hb2
      by_cases hv : val (ll.getD i []) = 0
      · obtain rfl : n1 = 0 := hz.2 hv
        have hm2 : m = (trimN (xs.take (i + 1))).length := by rw [HST.out, if_pos (by rw [HV.out]; exact hv)]; exact HM.out
        have HM2 := hide hm2
        clear hz hv hm2
        go_wp2
        go_roundw
        case rel => exact ⟨i + 1, m, by omega, by go_num, rfl, HM2.out, HO.out.1, HO.out.2⟩
        case measure => simp [intOf]; omega
      · have hn0 : (0 : Int) < (n1 : Int) := by
          have : n1 ≠ 0 := fun h9 => hv (hz.1 h9)
          omega
        have hm2 : i + 1 = (trimN (xs.take (i + 1))).length := by rw [HST.out, if_neg (by rw [HV.out]; exact hv)]
        have HM2 := hide hm2
        clear hz hv hm2
        go_wp2
        go_roundw
        case rel => exact ⟨i + 1, i + 1, by omega, by go_num, by go_num, HM2.out, HO.out.1, HO.out.2⟩
        case measure => simp [intOf]; omega
    · obtain rfl : n = i := by omega
      have hm1 := HM.out
      rw [List.take_of_length_le (by rw [HXL.out]; exact Nat.le_refl _)] at hm1
      have hmn : m ≤ n := by
        have h1 := trimN_len_le xs
        have := HXL.out
        omega
      have hr := hO.take hmn
      rw [tkL_end _ _ (by rw [HXL.out]; exact Nat.le_refl _), List.take_of_length_le (l := xs) (by rw [HXL.out]; exact Nat.le_refl _), hm1, ← trimN_take xs, ← hm1] at hr
      have HR := hide hr
      clear hm1 hr
      go_wp2
      go_ret
      exact ⟨_, _, _, rfl, HR.out, hS⟩
set_option maxHeartbeats 4000000 in
set_option maxRecDepth 10000 in
theorem poly_any (w : World) (A : Option Addr) (n c : Nat) (ll : List (List Nat)) (K : Nat) (h : RdL w A n c ll) (hK : ∀ k, (ll.getD k []).length ≤ K) (hK1 : K ≤ 100000) (hn : n ≤ 100000) :
    Calls Try.prog 26 #[.slice A n c] w (RetP (trimN (ll.map val)) K w) := by
  obtain ⟨i0, hy0, hy1, hy2, hy3⟩ := info_parts Try.infoNatP
  obtain ⟨xs, hxs⟩ : ∃ xs, xs = ll.map val := ⟨_, rfl⟩
  have hxl : xs.length = n := by rw [hxs, List.length_map]; exact h.len
  have hco : ∀ k, xs.getD k 0 = val (ll.getD k []) := fun k => by rw [hxs]; exact map_val_co ll k
  rw [← hxs]
  have HXL := hide hxl
  have HCO := hide hco
  have HK := hide hK
  clear hxs hxl hco hK
  have h63 := h.le63
  go_enter Try.func26, Try.ntmps26
  go_wp2_with fail
  go_loopw [3, 4] (fun nv iv wr => ∃ (i m : Nat), i ≤ n ∧ iv = .int .i64 (i : Int) ∧ nv = .int .i64 (m : Int) ∧ m = (trimN (xs.take i)).length ∧ Below w.heap.size w wr) (fun _ iv _ => n - (intOf iv).toNat)
  case atStart => exact ⟨0, 0, Nat.zero_le _, rfl, rfl, rfl, Below.refl _ _⟩
  case round =>
    obtain ⟨i, m, hi, rfl, rfl, hm, hS⟩ := hrel
    have HM := hide hm
    clear hm
    by_cases hlt : i < n
    · obtain ⟨b, off, Aj, nj, cj, rfl, hb, hcell0, hrd0⟩ := h.at hlt
      have hcell := (hS.cell (p := ⟨b, off + i, none⟩) hb).trans hcell0
      have hrd := hrd0.below hS
      have hnj : nj ≤ K := by rw [← hrd0.len]; exact HK.out i
      have HST := hide (trimN_step (l := xs) (i := i) (by have := HXL.out; omega))
      have HV := hide (HCO.out i)
      clear hcell0 hrd0
      by_cases hv : val (ll.getD i []) = 0
      · have hm2 : m = (trimN (xs.take (i + 1))).length := by rw [HST.out, if_pos (by rw [HV.out]; exact hv)]; exact HM.out
        have HM2 := hide hm2
        have hcall := rzero_any _ _ _ _ _ hrd (by omega) true (decide_eq_true hv)
        clear hv hm2
        go_wp2_with fail
        refine hcall.mono ?_
        rintro e w2 ⟨rfl, hb2⟩
        have HS2 := hide (hS.trans (hb2.mono hS.size))
        clear hcell hrd hcall hb2
        go_wp2
        go_roundw
        case rel => exact ⟨i + 1, m, by omega, by go_num, rfl, HM2.out, HS2.out⟩
        case measure => simp [intOf]; omega
      · have hm2 : i + 1 = (trimN (xs.take (i + 1))).length := by rw [HST.out, if_neg (by rw [HV.out]; exact hv)]
        have HM2 := hide hm2
        have hcall := rzero_any _ _ _ _ _ hrd (by omega) false (decide_eq_false hv)
        clear hv hm2
        go_wp2_with fail
        refine hcall.mono ?_
        rintro e w2 ⟨rfl, hb2⟩
        have HS2 := hide (hS.trans (hb2.mono hS.size))
        clear hcell hrd hcall hb2
        go_wp2
        go_roundw
        case rel => exact ⟨i + 1, i + 1, by omega, by go_num, by go_num, HM2.out, HS2.out⟩
        case measure => simp [intOf]; omega
    · obtain rfl : n = i := by omega
      have hm1 := HM.out
      rw [List.take_of_length_le (by rw [HXL.out]; exact Nat.le_refl _)] at hm1
      have hmn : m ≤ n := by
        have h1 := trimN_len_le xs
        have := HXL.out
        omega
      have HM1 := hide hm1
      clear hm1 HM
      obtain ⟨wo, rfl⟩ : ∃ wo : World, wo = wr := ⟨_, rfl⟩
      go_wp2_with (at_make; refine wpList_make_row _ rfl _ _ _ 23 rfl i0 _ 1 24 Try.underlying29 hy0 hy1 hy2 hy3 _ _ _ _ m rfl rfl rfl rfl (by omega) (by unfold maxLen; omega) ?_; intro w1 hown1 hb1)
      rw [madeCells_one (show (Value.slice none 0 0).cells = #[Value.slice none 0 0] from rfl)] at hown1
      have hO := OwnV.made (base := wo.heap.size) K hown1
      clear hown1
      go_loopw [6] (fun iv wr => ∃ i : Nat, i ≤ m ∧ iv = .int .i64 (i : Int) ∧ OwnV K wr wo.heap.size wo.heap.size m (tkL m xs i) ∧ Below wo.heap.size wo wr) (fun iv _ => m - (intOf iv).toNat)
      case atStart => exact ⟨0, Nat.zero_le _, rfl, by rw [tkL_zero]; exact hO, hb1⟩
      case round =>
        clear hO hb1
        obtain ⟨i, hi, rfl, hO, hS2⟩ := hrel
        by_cases hlt2 : i < m
        · have hS9 := hS.trans (hS2.mono hS.size)
          obtain ⟨b, off, Aj, nj, cj, rfl, hb, hcell0, hrd0⟩ := h.at (show i < n by omega)
          have hcell := (hS9.cell (p := ⟨b, off + i, none⟩) hb).trans hcell0
          have hrd := hrd0.below hS9
          have hnj : nj ≤ K := by rw [← hrd0.len]; exact HK.out i
          have HV := hide (HCO.out i)
          have hin : (i : Int) < (n : Int) := by omega
          clear hcell0 hrd0 hS9
          go_wp2_with fail
          refine (rtrim1 hrd (by omega)).mono ?_
          rintro e w2 ⟨A1, n1, c1, rfl, h1, hb2, hn1⟩
          have hO2 := hO.below hb2
          obtain ⟨A0, m0, c0, hc0, _, _, hf0⟩ := hO2.cell hlt2
          have hO3 := hO2.store hlt2 h1 (by omega)
          rw [tkL_set m xs i _ HV.out] at hO3
          have hS3 := (hS2.trans (hb2.mono hS2.size)).setCell (p := ⟨wo.heap.size, i, none⟩) (Nat.le_refl _) (.slice A1 n1 c1)
          have HO := hide (And.intro hO3 hS3)
          clear hcell hrd hO hO2 hO3 hS3 h1 hb2
          go_wp2
          go_roundw
          case rel => exact ⟨i + 1, by omega, by go_num, HO.out.1, HO.out.2⟩
          case measure => simp [intOf]; omega
        · obtain rfl : m = i := by omega
          have hr := hO.rd
          rw [tkL_end _ _ (by rw [HXL.out]; exact hmn)] at hr
          have hr2 : RdV (natC K) 0 wr 1 (some ⟨wo.heap.size, 0, none⟩) m m (trimN xs) := by
            rw [trimN_take xs, ← HM1.out]
            exact hr
          have HR := hide hr2
          clear hr hr2
          go_wp2
          go_ret
          exact ⟨_, _, _, rfl, HR.out, hS.trans (hS2.mono hS.size)⟩
end Go.Proofs.Ytonimfogmplgdaa
