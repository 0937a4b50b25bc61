/- The number of a text: the walk of nat.Parse. -/
import Derived.Test.YtfggecdgnidhfaaDoorDecM
import Derived.Test.YtfggecdgnidhfaaDoorAddMul
import Derived.Test.YtfggecdgnidhfaaDoorRefAdd
import Derived.Laws.IdiomStrings
namespace Go.Proofs.YtfggecdgnidhfaaDoor
open Go.RowKit
/-- What Parse returns for a text that is not too long. -/
def RetParse (s : List UInt8) (w : World) (e : Ending) (w' : World) : Prop :=
  (wellD s → ∃ A n c, e = .returned (.tuple #[.slice A n c, .int .i64 0]) ∧ Rd w' A n c (limbs (pval s))) ∧ (¬ wellD s → e = .returned (.tuple #[.slice none 0 0, .int .i64 14])) ∧ Below w.heap.size w w'
set_option maxHeartbeats 4000000 in
set_option maxRecDepth 10000 in
theorem parse_big (s : ByteArray) (w : World) (hs : 10000 < s.size) : Calls Tryd.prog 8 #[.string s] w (Makes (.tuple #[.slice none 0 0, .int .i64 8]) w) := by
  go_enter Tryd.func8, Tryd.ntmps8
  go_wp2
  go_ret2
  exact ⟨rfl, Below.refl _ _⟩
/-- The bytes of a string in memory. -/
theorem conv_bytes (r : ByteArray) (w : World) : ∃ (cap : Nat) (W1 : World), (convert 9 44 (.string r)).run Tryd.prog w = .ok (.slice (some ⟨w.heap.size, 0, none⟩) r.size cap) W1 ∧ Below w.heap.size w W1 ∧
    ∀ j (hj : j < r.data.size), W1.cell? ⟨w.heap.size, j, none⟩ = some (.int .u8 (r.data[j].toNat : Int)) := by
  refine ⟨_, _, run_bytes_of_string w 9 44 5 r Tryd.underlying9 Tryd.underlying44 Tryd.underlying5, (Below.refl _ _).drew.alloc (Nat.le_refl _) _, fun j hj => ?_⟩
  have h1 := World.cell?_alloc_mark w.drew (bytesRow r (grownCap w r.size 0 5)) 5 ((bytesRow r (grownCap w r.size 0 5)).size, (bytesRow r (grownCap w r.size 0 5)).size + 1) j
  exact h1.trans (bytesRow_at r _ j hj)
theorem digits_few {l : List UInt8} (h : ∀ c ∈ l, isDg c) : (limbs (pval l)).length ≤ l.length :=
  length_limbs_le (Nat.lt_of_lt_of_le (pval_lt h) (Nat.pow_le_pow_left (by decide) _))
theorem limbs_mul_le {x y K L : Nat} (hx : (limbs x).length ≤ K) (hy : (limbs y).length ≤ L) : (limbs (x * y)).length ≤ K + L := by
  have h1 := Nat.lt_of_lt_of_le (lt_pow_length x) (Nat.pow_le_pow_right (by decide) hx)
  have h2 := Nat.lt_of_lt_of_le (lt_pow_length y) (Nat.pow_le_pow_right (by decide) hy)
  refine length_limbs_le ?_
  rw [Nat.pow_add]
  exact Nat.mul_lt_mul_of_lt_of_le h1 (Nat.le_of_lt h2) (Nat.pow_pos (by decide))
def lenS : Value → Nat
  | .string r => r.size
  | _ => 0
set_option maxHeartbeats 4000000 in
set_option maxRecDepth 10000 in
theorem parse_any (s : ByteArray) (w : World) (hs : s.size ≤ 10000) (h0 : 0 < s.size) : Calls Tryd.prog 8 #[.string s] w (RetParse s.data.toList w) := by
  obtain ⟨S, hS⟩ : ∃ S, S = s.data.toList := ⟨_, rfl⟩
  have hSl : S.length = s.size := by rw [hS]; rfl
  have he : s.toList.isEmpty = false := by
    rw [ByteArray.toList_eq, ← hS]
    cases S with
    | nil => simp at hSl; omega
    | cons x l => rfl
  have hs0 : S.getD 0 0 = s[0]'h0 := by
    rw [hS, List.getD_eq_getElem?_getD, Array.getElem?_toList, Array.getElem?_eq_getElem (show 0 < s.data.size from h0)]
    rfl
  rw [← hS]
  by_cases hz : 1 < s.size ∧ s[0]'h0 = 48
  · have HW : Hid (¬ wellD S) := fun h => h.2.1 ⟨by omega, by rw [hs0]; exact hz.2⟩
    have h1 : (1 : Int) < (s.size : Int) := by omega
    have h2 : (((s[0]'h0).toNat : Int) == 48) = true := by rw [hz.2]; rfl
    clear hz hs0 hS hSl
    go_enter Tryd.func8, Tryd.ntmps8
    go_wp2
    go_ret2
    exact ⟨fun h => absurd h HW.out, fun _ => rfl, Below.refl _ _⟩
  · have h3 : (s.size : Int) ≤ 1 ∨ (1 < (s.size : Int) ∧ (((s[0]'h0).toNat : Int) == 48) = false) := by
      by_cases h9 : 1 < s.size
      · right
        refine ⟨by omega, ?_⟩
        have : s[0]'h0 ≠ 48 := fun h8 => hz ⟨h9, h8⟩
        simp
        intro h8
        exact this (UInt8.toNat_inj.1 (by rw [show (48 : UInt8).toNat = 48 from rfl]; omega))
      · left; omega
    have HZ := hide hz
    have HS0 := hide hs0
    have HSD := hide hS
    have HSL := hide hSl
    clear hz hs0 hS hSl
    go_enter Tryd.func8, Tryd.ntmps8
    rcases h3 with h3 | ⟨h1, h3⟩
    all_goals
      go_wp2_with fail
      go_loopw [0, 4, 5, 6, 7, 9] (fun sv ov _ _ _ _ wr => ∃ (k : Nat) (A1 : Option Addr) (n1 c1 : Nat) (r : ByteArray), sv = .string r ∧ r.data.toList = S.drop k ∧ k ≤ S.length ∧ ov = .slice A1 n1 c1 ∧ Rd wr A1 n1 c1 (limbs (pval (S.take k))) ∧ (∀ c ∈ S.take k, isDg c) ∧ Below w.heap.size w wr) (fun sv _ _ _ _ _ _ => lenS sv)
      case atStart => exact ⟨0, _, _, _, s, rfl, by rw [HSD.out]; rfl, Nat.zero_le _, rfl, by rw [List.take_zero, show pval [] = 0 from rfl, limbs_zero]; exact Rd.nil _, fun c hc => by simp at hc, Below.refl _ _⟩
      case round =>
        obtain ⟨k, A1, n1, c1, r, rfl, hr, hk, rfl, hrd, hdg, hB⟩ := hrel
        have hrl : r.size = S.length - k := by
          have h9 := congrArg List.length hr
          rw [List.length_drop] at h9
          exact h9
        have hn1 : n1 ≤ 10000 := by
          have h9 := digits_few hdg
          have h8 := hrd.len
          have h7 := HSL.out
          rw [List.length_take] at h9
          omega
        have hrs : r.size ≤ 10000 := by have := HSL.out; omega
        have HR := hide hr
        have HK := hide hk
        have HDG := hide hdg
        have HRL := hide hrl
        clear hr hk hdg hrl
        by_cases hgo : 0 < r.size
        · obtain ⟨n, hn⟩ : ∃ n, n = (r.size - 1) % 9 + 1 := ⟨_, rfl⟩
          obtain ⟨cap, W1, hconv, hb1, hcells⟩ := conv_bytes (r.extract 0 n) wr
          have hq : ((r.size : Int) - 1) % 9 + 1 = (n : Int) := by omega
          have hnr : (n : Int) ≤ (r.size : Int) := by omega
          have hn9 : n ≤ 9 := by omega
          have hsz : (r.extract 0 n).size = n := by simp; omega
          have hcl : ∀ j, j < n → W1.cell? ⟨wr.heap.size, j, none⟩ = some (.int .u8 ((S.getD (k + j) 0).toNat : Int)) := by
            intro j hj
            rw [hcells j (by rw [show (r.extract 0 n).data.size = (r.extract 0 n).size from rfl, hsz]; exact hj)]
            have h9 : (r.extract 0 n).data[j]'(by rw [show (r.extract 0 n).data.size = (r.extract 0 n).size from rfl, hsz]; exact hj) = S.getD (k + j) 0 := by
              have h8 : r.data.toList[j]? = S[k + j]? := by rw [HR.out, List.getElem?_drop]
              have h7 : (r.extract 0 n).data[j]? = r.data[j]? := by
                rw [ByteArray.data_extract, Array.getElem?_extract]
                simp
                omega
              rw [List.getD_eq_getElem?_getD, ← h8, Array.getElem?_toList, ← h7, Array.getElem?_eq_getElem (by rw [show (r.extract 0 n).data.size = (r.extract 0 n).size from rfl, hsz]; exact hj)]
              rfl
            rw [h9]
          have hkn : k + n ≤ S.length := by have := HRL.out; have := HK.out; omega
          rw [hsz] at hconv
          have HN := hide hn
          have HCL := hide hcl
          have HB1 := hide hb1
          have HKN := hide hkn
          clear hn hcells hcl hb1 hkn hsz
          go_wp2_with fail
          go_loopw [6, 7, 9, 38] (fun pv vv _ iv wr2 => ∃ j : Nat, j ≤ n ∧ iv = .int .i64 (j : Int) ∧ pv = .int .u32 ((10 ^ j : Nat) : Int) ∧ vv = .int .u32 ((pval ((S.drop k).take j) : Nat) : Int) ∧ (∀ c ∈ (S.drop k).take j, isDg c) ∧ wr2 = W1) (fun _ _ _ iv _ => n - (intOf iv).toNat)
          case atStart => exact ⟨0, Nat.zero_le _, rfl, rfl, rfl, fun c hc => by simp at hc, rfl⟩
          case round =>
            obtain ⟨j, hj, rfl, rfl, rfl, hdj, rfl⟩ := hrel
            have HDJ := hide hdj
            clear hdj
            by_cases hlt : j < n
            · have hcell := HCL.out j hlt
              have htk : (S.drop k).take (j + 1) = (S.drop k).take j ++ [S.getD (k + j) 0] := by
                rw [List.take_succ_eq_append_getElem (by rw [List.length_drop]; have := HKN.out; omega), List.getElem_drop, List.getD_eq_getElem?_getD, List.getElem?_eq_getElem (by have := HKN.out; omega)]
                rfl
              have hmem : S.getD (k + j) 0 ∈ S := by
                rw [List.getD_eq_getElem?_getD, List.getElem?_eq_getElem (by have := HKN.out; omega)]
                exact List.getElem_mem _
              have HTK := hide htk
              have HMEM := hide hmem
              have hvl : pval ((S.drop k).take j) < 10 ^ j := by
                have h9 := pval_lt HDJ.out
                rw [List.length_take, List.length_drop, Nat.min_eq_left (by have := HKN.out; omega)] at h9
                exact h9
              have hp8 : 10 ^ j ≤ 100000000 := Nat.pow_le_pow_right (by decide) (show j ≤ 8 by omega)
              have HP := hide (show 10 ^ (j + 1) = 10 ^ j * 10 from Nat.pow_succ ..)
              clear htk hmem
              by_cases hd : isDg (S.getD (k + j) 0)
              · have hv := pval_snoc ((S.drop k).take j) (S.getD (k + j) 0)
                rw [← HTK.out] at hv
                have HV := hide hv
                have hdn : ∀ c ∈ (S.drop k).take (j + 1), isDg c := by
                  intro c hc
                  rw [HTK.out, List.mem_append, List.mem_singleton] at hc
                  rcases hc with hc | rfl
                  · exact HDJ.out c hc
                  · exact hd
                have HDN := hide hdn
                unfold isDg at hd
                obtain ⟨hd1, hd2⟩ := hd
                clear hv hdn
                generalize S.getD (k + j) 0 = c at *
                generalize pval ((S.drop k).take j) = v at *
                generalize 10 ^ j = p at *
                have g1 : ¬ (c.toNat : Int) < 48 := by omega
                have g2 : ¬ (57 : Int) < (c.toNat : Int) := by omega
                go_wp2
                go_roundw
                case rel => exact ⟨j + 1, by omega, by go_num, by rw [HP.out]; go_num, by rw [HV.out]; go_num, HDN.out, by trivial⟩
                case measure => simp [intOf]; omega
              · have HBAD : Hid (¬ wellD S) := fun h => hd (h.2.2 _ HMEM.out)
                have HB2 := hide (hB.trans (HB1.out.mono hB.size))
                unfold isDg at hd
                generalize S.getD (k + j) 0 = c at *
                rcases (show (c.toNat : Int) < 48 ∨ (¬ (c.toNat : Int) < 48 ∧ (57 : Int) < (c.toNat : Int)) by omega) with g1 | ⟨g1, g2⟩
                all_goals
                  go_wp2
                  go_ret2
                  exact ⟨fun h => absurd h HBAD.out, fun _ => rfl, HB2.out⟩
            · obtain rfl : n = j := by omega
              have hB2 := hB.trans (HB1.out.mono hB.size)
              have hrd2 := hrd.below HB1.out
              have hp9 : 10 ^ n ≤ 1000000000 := Nat.pow_le_pow_right (by decide) (show n ≤ 9 by omega)
              have hvl : pval ((S.drop k).take n) < 10 ^ n := by
                have h9 := pval_lt HDJ.out
                rw [List.length_take, List.length_drop, Nat.min_eq_left (by have := HKN.out; omega)] at h9
                exact h9
              have hsp : S.take (k + n) = S.take k ++ (S.drop k).take n := List.take_add ..
              have hpv : pval (S.take (k + n)) = pval (S.take k) * 10 ^ n + pval ((S.drop k).take n) := by
                rw [hsp, pval_add, List.length_take, List.length_drop, Nat.min_eq_left (by have := HKN.out; omega)]
              have hdn : ∀ c ∈ S.take (k + n), isDg c := by
                intro c hc
                rw [hsp, List.mem_append] at hc
                rcases hc with hc | hc
                · exact HDG.out c hc
                · exact HDJ.out c hc
              have HPV := hide hpv
              have HDN := hide hdn
              have hrx : (r.extract n r.size).data.toList = S.drop (k + n) := by
                rw [ByteArray.data_extract, Array.toList_extract, HR.out]
                rw [show (S.drop k).extract n r.size = ((S.drop k).drop n).take (r.size - n) from List.extract_eq_take_drop ..]
                rw [List.drop_drop, List.take_of_length_le]
                rw [List.length_drop]
                have := HRL.out
                omega
              have HRX := hide hrx
              have hrz : (r.extract n r.size).size < r.size := by
                have h9 := congrArg List.length hrx
                rw [List.length_drop] at h9
                have h8 : (r.extract n r.size).size = S.length - (k + n) := h9
                have := HRL.out
                have := HKN.out
                have := HN.out
                omega
              have HRZ := hide hrz
              clear hconv hpv hdn hsp hrx hrz hrd
              generalize hve : pval ((S.drop k).take n) = v at *
              generalize hpe : 10 ^ n = p at *
              have hl1 := own_one wr 40 (x := p) (z := (p : Int)) rfl (by omega)
              have hba := below_alloc wr (.cells #[Value.int .u32 (p : Int)] 40)
              have hr1 := hrd2.below hba
              have hcall := times_any A1 n1 c1 _ (some ⟨wr.heap.size, 0, none⟩) 1 1 [p] _ hr1 hl1.rd (by omega) (by omega)
              rw [val_limbs, show val [p] = p by simp [val]] at hcall
              have HC := hide hcall
              have HBA := hide hba
              clear hcall hl1 hr1 hrd2 hba
              go_wp2_with fail
              refine HC.out.mono ?_
              rintro e w4 ⟨A4, n4, c4, rfl, h4, hb4⟩
              have hl2 := own_one w4 40 (x := v) (z := (v : Int)) rfl (by omega)
              have hba2 := below_alloc w4 (.cells #[Value.int .u32 (v : Int)] 40)
              have hn4 : n4 ≤ 20000 := by
                have h9 := h4.len
                have h8 := limbs_mul_le (x := pval (S.take k)) (y := p) (K := 10000) (L := 1) (by
                  have h7 := digits_few HDG.out
                  have h6 := HSL.out
                  rw [List.length_take] at h7
                  omega) (length_limbs_le (by omega))
                omega
              have hcall := plus_any A4 n4 c4 _ (some ⟨w4.heap.size, 0, none⟩) 1 1 [v] _ (h4.below hba2) hl2.rd (by omega) (by omega)
              rw [val_limbs, show val [v] = v by simp [val], ← HPV.out] at hcall
              have HC2 := hide hcall
              have hB3 := below_step hba2 (below_step hb4 (below_step HBA.out hB2))
              clear hcall hl2 h4 hba2 hb4
              go_wp2_with fail
              refine HC2.out.mono ?_
              rintro e w5 ⟨A5, n5, c5, rfl, h5, hb5⟩
              have HF := hide (And.intro h5 (below_step hb5 hB3))
              clear h5 hb5 hB3 hB2 hB
              go_wp2
              go_roundw
              case rel => exact ⟨k + n, A5, n5, c5, r.extract n r.size, rfl, HRX.out, HKN.out, rfl, HF.out.1, HDN.out, HF.out.2⟩
              case measure => exact HRZ.out
        · have hks : k = S.length := by have := HRL.out; have := HK.out; omega
          have hall : S.take k = S := List.take_of_length_le (by omega)
          rw [hall] at hrd
          have HDG2 := HDG.out
          rw [hall] at HDG2
          have HW : Hid (wellD S) := by
            refine ⟨fun h9 => ?_, fun h9 => HZ.out ⟨by have := HSL.out; omega, by rw [← HS0.out]; exact h9.2⟩, HDG2⟩
            have h8 := HSL.out
            rw [h9] at h8
            simp at h8
            omega
          have hcall := trim_any A1 n1 c1 _ wr hrd (by omega)
          rw [val_limbs] at hcall
          have HC := hide hcall
          clear hcall hrd hks hall HDG2
          go_wp2_with fail
          refine HC.out.mono ?_
          rintro e w5 ⟨A5, n5, c5, rfl, h5, hb5⟩
          have HF := hide (And.intro h5 (below_step hb5 hB))
          clear h5 hb5 hB
          go_wp2
          go_ret2
          exact ⟨fun _ => ⟨_, _, _, rfl, HF.out.1⟩, fun h => absurd HW.out h, HF.out.2⟩
end Go.Proofs.YtfggecdgnidhfaaDoor
