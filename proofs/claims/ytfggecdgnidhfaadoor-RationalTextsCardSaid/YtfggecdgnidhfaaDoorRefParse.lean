/- The number of a text: the walk of the reference's Parse. -/
import Derived.Test.YtfggecdgnidhfaaDoorParse
import Derived.Test.YtfggecdgnidhfaaDoorRefAdd
namespace Go.Proofs.YtfggecdgnidhfaaDoor
open Go.RowKit
/-- A number is multiplied by ten in place: j limbs are done. -/
def TenAt (o q : List Nat) (d j c : Nat) : Prop := q.length = o.length ∧ val (q.take j) + 4294967296 ^ j * c = 10 * val (o.take j) + d ∧ q.drop j = o.drop j ∧ c ≤ 9
theorem tenAt_step {o q : List Nat} {d j c : Nat} (h : TenAt o q d j c) (hj : j < o.length) (hl : Lims o) :
    TenAt o (q.set j ((lim q j * 10 + c) % 4294967296)) d (j + 1) ((lim q j * 10 + c) / 4294967296) ∧ lim q j * 10 + c < 18446744073709551616 := by
  obtain ⟨h1, h2, h3, h4⟩ := h
  have hx := hl.getD j
  have hq : lim q j = lim o j := by
    have h5 : (q.drop j).getD 0 0 = (o.drop j).getD 0 0 := by rw [h3]
    unfold lim
    simpa [List.getD_eq_getElem?_getD, List.getElem?_drop] using h5
  refine ⟨⟨by rw [List.length_set]; exact h1, ?_, ?_, by omega⟩, by omega⟩
  · rw [val_take_set _ _ _ (by omega), val_take_succ _ _ hj, ← hq, Nat.pow_succ]
    have h6 := Nat.div_add_mod (lim q j * 10 + c) 4294967296
    generalize (lim q j * 10 + c) % 4294967296 = m at *
    generalize (lim q j * 10 + c) / 4294967296 = e at *
    generalize lim q j = x at *
    have h7 : 4294967296 ^ j * m + 4294967296 ^ j * 4294967296 * e = 4294967296 ^ j * (x * 10 + c) := by rw [← h6, Nat.mul_add, Nat.mul_assoc]; omega
    rw [Nat.mul_add] at h7
    have h8 : 4294967296 ^ j * (x * 10) = 10 * (4294967296 ^ j * x) := by rw [← Nat.mul_assoc, Nat.mul_comm]
    rw [Nat.mul_add]
    omega
  · rw [List.drop_set_of_lt (by omega), ← List.drop_drop, ← List.drop_drop, h3]
theorem tenAt_end {o q : List Nat} {d c : Nat} (h : TenAt o q d o.length c) : val q + 4294967296 ^ o.length * c = 10 * val o + d := by
  obtain ⟨h1, h2, _, _⟩ := h
  rw [List.take_of_length_le (by omega), List.take_of_length_le (Nat.le_refl _)] at h2
  exact h2
theorem rparse_big (s : ByteArray) (w : World) (hs : 10000 < s.size) : Calls Tryd.prog 12 #[.string s] w (Makes (.tuple #[.slice none 0 0, .int .i64 8]) w) := by
  go_enter Tryd.func12, Tryd.ntmps12
  go_wp2
  go_ret2
  exact ⟨rfl, Below.refl _ _⟩
set_option maxHeartbeats 4000000 in
set_option maxRecDepth 10000 in
theorem rparse_any (s : ByteArray) (w : World) (hs : s.size ≤ 10000) (h0 : 0 < s.size) : Calls Tryd.prog 12 #[.string s] w (RetParse s.data.toList w) := by
  obtain ⟨i0, hi0, hz0, hz1, hz2⟩ := info_parts Tryd.infoU32
  obtain ⟨S, hS⟩ : ∃ S, S = s.data.toList := ⟨_, rfl⟩
  have hSl : S.length = s.size := by rw [hS]; rfl
  have he : s.toList.isEmpty = false := by
    rw [ByteArray.toList_eq, ← hS]
    cases S with
    | nil => simp at hSl; omega
    | cons x l => rfl
  have hsk : ∀ k (hk : k < s.size), S.getD k 0 = s[k]'hk := fun k hk => by
    rw [hS, List.getD_eq_getElem?_getD, Array.getElem?_toList, Array.getElem?_eq_getElem (show k < s.data.size from hk)]
    rfl
  have hs0 := hsk 0 h0
  rw [← hS]
  by_cases hz : 1 < s.size ∧ s[0]'h0 = 48
  · have HW : Hid (¬ wellD S) := fun h => h.2.1 ⟨by omega, by rw [hs0]; exact hz.2⟩
    have h1 : (1 : Int) < (s.size : Int) := by omega
    have h2 : (((s[0]'h0).toNat : Int) == 48) = true := by rw [hz.2]; rfl
    clear hz hs0 hS hSl hsk
    go_enter Tryd.func12, Tryd.ntmps12
    go_wp2
    go_ret2
    exact ⟨fun h => absurd h HW.out, fun _ => rfl, Below.refl _ _⟩
  · have h3 : (s.size : Int) ≤ 1 ∨ (1 < (s.size : Int) ∧ (((s[0]'h0).toNat : Int) == 48) = false) := by
      by_cases h9 : 1 < s.size
      · right
        refine ⟨by omega, ?_⟩
        have : s[0]'h0 ≠ 48 := fun h8 => hz ⟨h9, h8⟩
        simp
        intro h8
        exact this (UInt8.toNat_inj.1 (by rw [show (48 : UInt8).toNat = 48 from rfl]; omega))
      · left; omega
    have HZ := hide hz
    have HS0 := hide hs0
    have HSK := hide hsk
    have HSL := hide hSl
    clear hz hs0 hS hSl hsk
    go_enter Tryd.func12, Tryd.ntmps12
    rcases h3 with h3 | ⟨h1, h3⟩
    all_goals
      go_wp2_with fail
      go_loopw [4] (fun iv wr => ∃ k : Nat, k ≤ s.size ∧ iv = .int .i64 (k : Int) ∧ (∀ c ∈ S.take k, isDg c) ∧ wr = w) (fun iv _ => s.size - (intOf iv).toNat)
      case atStart => exact ⟨0, Nat.zero_le _, rfl, fun c hc => by simp at hc, rfl⟩
      case round =>
        obtain ⟨k, hk, rfl, hdg, rfl⟩ := hrel
        have HDG := hide hdg
        clear hdg
        by_cases hlt : k < s.size
        · have hc := HSK.out k hlt
          have hq1 : (k : Int) < (s.size : Int) := by omega
          have hmem : S.getD k 0 ∈ S := by
            rw [List.getD_eq_getElem?_getD, List.getElem?_eq_getElem (by have := HSL.out; omega)]
            exact List.getElem_mem _
          have htk : S.take (k + 1) = S.take k ++ [S.getD k 0] := by
            rw [List.take_succ_eq_append_getElem (by have := HSL.out; omega), List.getD_eq_getElem?_getD, List.getElem?_eq_getElem (by have := HSL.out; omega)]
            rfl
          rw [hc] at hmem htk
          have HMEM := hide hmem
          have HTK := hide htk
          clear hmem htk hc
          by_cases hd : isDg (s[k]'hlt)
          · have hdn : ∀ c ∈ S.take (k + 1), isDg c := by
              intro c hc
              rw [HTK.out, List.mem_append, List.mem_singleton] at hc
              rcases hc with hc | rfl
              · exact HDG.out c hc
              · exact hd
            have HDN := hide hdn
            unfold isDg at hd
            have g1 : ¬ ((s[k]'hlt).toNat : Int) < 48 := by omega
            have g2 : ¬ (57 : Int) < ((s[k]'hlt).toNat : Int) := by omega
            clear hdn hd
            go_wp2
            go_roundw
            case rel => exact ⟨k + 1, by omega, by go_num, HDN.out, by trivial⟩
            case measure => simp [intOf]; omega
          · have HBAD : Hid (¬ wellD S) := fun h => hd (h.2.2 _ HMEM.out)
            unfold isDg at hd
            rcases (show ((s[k]'hlt).toNat : Int) < 48 ∨ (¬ ((s[k]'hlt).toNat : Int) < 48 ∧ (57 : Int) < ((s[k]'hlt).toNat : Int)) by omega) with g1 | ⟨g1, g2⟩
            all_goals
              go_wp2
              go_ret2
              exact ⟨fun h => absurd h HBAD.out, fun _ => rfl, Below.refl _ _⟩
        · obtain rfl : s.size = k := by omega
          have hall : S.take s.size = S := List.take_of_length_le (by have := HSL.out; omega)
          have hdg := HDG.out
          rw [hall] at hdg
          have HDA := hide hdg
          clear hall hdg hlt
          obtain ⟨w, rfl⟩ : ∃ w : World, w = wr := ⟨_, rfl⟩
          clear h3
          go_wp2_with fail
          go_loopw [5, 6, 7, 8, 9] (fun ov iv _ _ _ wr => ∃ (k : Nat) (A1 : Option Addr) (n1 c1 : Nat) (o : List Nat), k ≤ s.size ∧ iv = .int .i64 (k : Int) ∧ ov = .slice A1 n1 c1 ∧ Own wr w.heap.size 40 A1 n1 c1 o ∧ val o = pval (S.take k) ∧ n1 ≤ k ∧ Below w.heap.size w wr) (fun _ iv _ _ _ _ => s.size - (intOf iv).toNat)
          case atStart => exact ⟨0, _, _, _, [], Nat.zero_le _, rfl, rfl, Own.nil _ _ _, rfl, Nat.le_refl _, Below.refl _ _⟩
          case round =>
            obtain ⟨k, A1, n1, c1, o, hk, rfl, rfl, hown, hv, hnk, hB⟩ := hrel
            have HV := hide hv
            clear hv
            by_cases hlt : k < s.size
            · have hc := HSK.out k hlt
              have hq1 : (k : Int) < (s.size : Int) := by omega
              have hmem : S.getD k 0 ∈ S := by
                rw [List.getD_eq_getElem?_getD, List.getElem?_eq_getElem (by have := HSL.out; omega)]
                exact List.getElem_mem _
              have htk : S.take (k + 1) = S.take k ++ [S.getD k 0] := by
                rw [List.take_succ_eq_append_getElem (by have := HSL.out; omega), List.getD_eq_getElem?_getD, List.getElem?_eq_getElem (by have := HSL.out; omega)]
                rfl
              rw [hc] at hmem htk
              have hd := HDA.out _ hmem
              unfold isDg at hd
              obtain ⟨hd1, hd2⟩ := hd
              have hpv := pval_snoc (S.take k) (s[k]'hlt)
              rw [← htk, ← HV.out] at hpv
              obtain ⟨d, hd0⟩ : ∃ d, d = (s[k]'hlt).toNat - 48 := ⟨_, rfl⟩
              rw [← hd0] at hpv
              have hd9 : d ≤ 9 := by omega
              have hcd : ((s[k]'hlt).toNat : Int) - 48 = (d : Int) := by omega
              have HPV := hide hpv
              have HOL := hide hown.len
              have HOM := hide hown.lims
              have hown0 := hown
              clear hc hmem htk hpv hd0 hown
              obtain ⟨wo, rfl⟩ : ∃ wo : World, wo = wr := ⟨_, rfl⟩
              go_wp2_with fail
              go_loopw [7, 8, 9] (fun cv jv _ wr => ∃ (j cc : Nat) (q : List Nat), j ≤ n1 ∧ jv = .int .i64 (j : Int) ∧ cv = .int .u64 (cc : Int) ∧ TenAt o q d j cc ∧ Own wr w.heap.size 40 A1 n1 c1 q ∧ Below w.heap.size w wr) (fun _ jv _ _ => n1 - (intOf jv).toNat)
              case atStart => exact ⟨0, d, o, Nat.zero_le _, rfl, rfl, ⟨rfl, by simp [val_nil], rfl, hd9⟩, hown0, hB⟩
              case round =>
                clear hown0 hB
                obtain ⟨j, cc, q, hj, rfl, rfl, hten, hown, hB⟩ := hrel
                have hcc := hten.2.2.2
                have HT := hide hten
                clear hten
                by_cases hltj : j < n1
                · first
                  | (exfalso; omega)
                  | (obtain ⟨g, rfl, hg9, _⟩ := hown.block (by omega)
                     have hoc := hown.cell (k := j) (by omega)
                     have hof := hown.free j
                     have hx := hown.lims.getD j
                     obtain ⟨s1, s2⟩ := tenAt_step HT.out (by rw [HOL.out]; exact hltj) HOM.out
                     have HS1 := hide s1
                     have hrow := hown.setInt j (x := (lim q j * 10 + cc) % 4294967296) (z := ((lim q j : Int) * 10 + (cc : Int)) % 4294967296) (Nat.mod_lt _ (by omega)) (by simp)
                     have HF := hide (And.intro hrow (hB.setCell (p := ⟨g, j, none⟩) (by omega) (.int .u32 (((lim q j : Int) * 10 + (cc : Int)) % 4294967296))))
                     clear s1 s2 hrow hown
                     go_wp2
                     go_roundw
                     case rel => exact ⟨j + 1, (lim q j * 10 + cc) / 4294967296, _, by omega, by go_num, by go_num, HS1.out, HF.out.1, HF.out.2⟩
                     case measure => simp [intOf]; omega)
                · obtain rfl : n1 = j := by omega
                  have hend : val q + 4294967296 ^ n1 * cc = 10 * val o + d := by
                    have h9 := HT.out
                    rw [← HOL.out] at h9 ⊢
                    exact tenAt_end h9
                  rcases Nat.eq_zero_or_pos cc with rfl | hcp
                  · have hv2 : val q = pval (S.take (k + 1)) := by rw [HPV.out]; omega
                    have HV2 := hide hv2
                    clear hend hv2
                    go_wp2
                    go_roundw
                    case rel => exact ⟨k + 1, _, _, _, q, by omega, by go_num, rfl, hown, HV2.out, by omega, hB⟩
                    case measure => simp [intOf]; omega
                  · have hv2 : val (q ++ [cc]) = pval (S.take (k + 1)) := by rw [HPV.out, val_snoc _ _ hown.len]; omega
                    have HV2 := hide hv2
                    have hgt : (0 : Int) < (cc : Int) := by omega
                    have hs1 := own_one wr 40 (x := cc) (z := (cc : Int)) rfl (by omega)
                    have hsrc := hs1.rd
                    have hba := below_alloc wr (.cells #[Value.int .u32 (cc : Int)] 40)
                    have HD := hide (hown.below hba)
                    have hS2 := below_step hba hB
                    have hkb : n1 + 1 ≤ 1073741824 := by omega
                    have hsz : w.heap.size ≤ wr.heap.size + 1 := by have := hB.size; omega
                    clear hend hv2 hs1 hba hown
                    go_wp2_with (at_builtin; refine wpList_append_rd _ rfl _ _ _ 40 rfl i0 Tryd.underlying23 hi0 hz0 hz1 hz2 w.heap.size _ n1 c1 q rfl HD.out _ 1 1 _ rfl hsrc hkb (by simp; exact hsz) ?_; intro A' c' w4 hown1 hb1)
                    go_roundw
                    case rel => exact ⟨k + 1, _, _, _, _, by omega, by go_num, rfl, hown1, HV2.out, by omega, hS2.trans hb1⟩
                    case measure => simp [intOf]; omega
            · obtain rfl : s.size = k := by omega
              have hv := HV.out
              rw [List.take_of_length_le (by have := HSL.out; omega)] at hv
              have HW : Hid (wellD S) := by
                refine ⟨fun h9 => ?_, fun h9 => HZ.out ⟨by have := HSL.out; omega, by rw [← HS0.out]; exact h9.2⟩, HDA.out⟩
                have h8 := HSL.out
                rw [h9] at h8
                simp at h8
                omega
              have hcall := rtrim_any A1 n1 c1 _ wr hown.rd (by omega)
              rw [hv] at hcall
              have HC := hide hcall
              clear hcall hv hown
              go_wp2_with fail
              refine HC.out.mono ?_
              rintro e w5 ⟨A5, n5, c5, rfl, h5, hb5⟩
              have HF := hide (And.intro h5 (below_step hb5 hB))
              clear h5 hb5 hB
              go_wp2
              go_ret2
              exact ⟨fun _ => ⟨_, _, _, rfl, HF.out.1⟩, fun h => absurd HW.out h, HF.out.2⟩
end Go.Proofs.YtfggecdgnidhfaaDoor
