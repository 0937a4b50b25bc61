/- The walks of the laws NatTexts and NatParses. -/
import Derived.Test.YtfggecdgnidhfaaDoorText
import Derived.Test.YtfggecdgnidhfaaDoorRefText
import Derived.Test.YtfggecdgnidhfaaDoorRefParse
namespace Go.Proofs.YtfggecdgnidhfaaDoor
open Go.RowKit
theorem parse_empty (s : ByteArray) (w : World) (h0 : s.size = 0) : Calls Tryd.prog 8 #[.string s] w (Makes (.tuple #[.slice none 0 0, .int .i64 14]) w) := by
  have he : s.toList.isEmpty = true := by
    rw [ByteArray.toList_eq, List.eq_nil_of_length_eq_zero (show s.data.toList.length = 0 from h0)]
    rfl
  have hs : (s.size : Int) ≤ 10000 := by omega
  go_enter Tryd.func8, Tryd.ntmps8
  go_wp2
  go_ret2
  exact ⟨rfl, Below.refl _ _⟩
theorem rparse_empty (s : ByteArray) (w : World) (h0 : s.size = 0) : Calls Tryd.prog 12 #[.string s] w (Makes (.tuple #[.slice none 0 0, .int .i64 14]) w) := by
  have he : s.toList.isEmpty = true := by
    rw [ByteArray.toList_eq, List.eq_nil_of_length_eq_zero (show s.data.toList.length = 0 from h0)]
    rfl
  have hs : (s.size : Int) ≤ 10000 := by omega
  go_enter Tryd.func12, Tryd.ntmps12
  go_wp2
  go_ret2
  exact ⟨rfl, Below.refl _ _⟩
theorem dec_short {N n : Nat} (h : N < 4294967296 ^ n) (h0 : 0 < n) : (dec N).length ≤ 10 * n := by
  refine dec_len (Nat.lt_of_lt_of_le h ?_) (by omega)
  rw [Nat.pow_mul]
  exact Nat.pow_le_pow_left (by decide) n
theorem dec_pos (N : Nat) : 0 < (dec N).length := by
  rcases Nat.eq_zero_or_pos (dec N).length with h | h
  · exact absurd (List.eq_nil_of_length_eq_zero h) (dec_well N).1
  · exact h
set_option maxHeartbeats 4000000 in
set_option maxRecDepth 10000 in
theorem law_NatTexts (w : World) (A : Option Addr) (n c : Nat) (l : List Nat) (h : Rd w A n c l) :
    Calls Tryd.prog 3 #[.slice A n c] w (Makes (.bool true) w) := by
  have h63 := h.le63
  by_cases hbig : 300 < n
  · go_enter Tryd.func3, Tryd.ntmps3
    go_wp2
    go_ret
    exact ⟨rfl, Below.refl _ _⟩
  · obtain ⟨K, hK⟩ : ∃ K, K = 300 := ⟨_, rfl⟩
    have hlt : val l < 4294967296 ^ K := by
      have h1 := val_lt h.lims
      rw [h.len] at h1
      exact Nat.lt_of_lt_of_le h1 (Nat.pow_le_pow_right (by decide) (by omega))
    have hlen := dec_short hlt (by omega)
    have hpos := dec_pos (val l)
    clear hlt
    go_enter Tryd.func3, Tryd.ntmps3
    go_wp2_with fail
    refine (text_any A n c l w h (by omega)).mono ?_
    rintro e w1 ⟨rfl, hb1⟩
    have hsz : (⟨(dec (val l)).toArray⟩ : ByteArray).size = (dec (val l)).length := by simp [ByteArray.size]
    have hcall := parse_any ⟨(dec (val l)).toArray⟩ w1 (by omega) (by omega)
    have HC := hide hcall
    have HSZ := hide (And.intro hsz (And.intro hlen hpos))
    clear hcall hsz hlen hpos
    go_wp2_with fail
    refine HC.out.mono ?_
    rintro e w2 ⟨hok, _, hb2⟩
    obtain ⟨A2, n2, c2, rfl, h2⟩ := hok (by simpa using dec_well (val l))
    rw [show pval (ByteArray.mk (dec (val l)).toArray).data.toList = val l by simpa using pval_dec (val l)] at h2
    have hB := below_step hb2 hb1
    clear hok hb2 hb1
    go_wp2_with fail
    refine (rtext_any A n c l w2 (h.below hB) (by omega)).mono ?_
    rintro e w3 ⟨rfl, hb3⟩
    have hB3 := below_step hb3 hB
    have h3 := h2.below hb3
    clear h2 hb3 hB
    generalize (dec (val l)).toArray = t at *
    go_wp2_with fail
    refine (rtrim_any A n c l w3 (h.below hB3) (by omega)).mono ?_
    rintro e w4 ⟨A4, n4, c4, rfl, h4, hb4⟩
    go_wp2_with fail
    refine (same_yes _ _ _ _ _ _ _ _ (h3.below hb4) h4).mono ?_
    rintro e w5 ⟨rfl, hb5⟩
    go_wp2
    go_ret
    exact ⟨rfl, below_step hb5 (below_step hb4 hB3)⟩
set_option maxHeartbeats 4000000 in
set_option maxRecDepth 10000 in
theorem law_NatParses (w : World) (s : ByteArray) (hs0 : s.size ≤ maxLen) :
    Calls Tryd.prog 4 #[.string s] w (Makes (.bool true) w) := by
  have hs63 : s.size ≤ 9223372036854775807 := hs0
  by_cases hbig : 10000 < s.size
  · go_enter Tryd.func4, Tryd.ntmps4
    go_wp2_with fail
    refine (parse_big s w hbig).mono ?_
    rintro e w1 ⟨rfl, hb1⟩
    go_wp2_with fail
    refine (rparse_big s w1 hbig).mono ?_
    rintro e w2 ⟨rfl, hb2⟩
    go_wp2_with fail
    refine (same_yes _ _ _ _ _ _ _ _ (Rd.nil _) (Rd.nil _)).mono ?_
    rintro e w3 ⟨rfl, hb3⟩
    go_wp2
    go_ret
    exact ⟨rfl, below_step hb3 (below_step hb2 hb1)⟩
  · by_cases h0 : s.size = 0
    · go_enter Tryd.func4, Tryd.ntmps4
      go_wp2_with fail
      refine (parse_empty s w h0).mono ?_
      rintro e w1 ⟨rfl, hb1⟩
      go_wp2_with fail
      refine (rparse_empty s w1 h0).mono ?_
      rintro e w2 ⟨rfl, hb2⟩
      go_wp2_with fail
      refine (same_yes _ _ _ _ _ _ _ _ (Rd.nil _) (Rd.nil _)).mono ?_
      rintro e w3 ⟨rfl, hb3⟩
      go_wp2
      go_ret
      exact ⟨rfl, below_step hb3 (below_step hb2 hb1)⟩
    · go_enter Tryd.func4, Tryd.ntmps4
      go_wp2_with fail
      refine (parse_any s w (by omega) (by omega)).mono ?_
      rintro e w1 ⟨hok, hno, hb1⟩
      by_cases hw : wellD s.data.toList
      · obtain ⟨A1, n1, c1, rfl, h1⟩ := hok hw
        clear hok hno
        go_wp2_with fail
        refine (rparse_any s w1 (by omega) (by omega)).mono ?_
        rintro e w2 ⟨hok, _, hb2⟩
        obtain ⟨A2, n2, c2, rfl, h2⟩ := hok hw
        clear hok
        have h1' := h1.below hb2
        have hB := below_step hb2 hb1
        have hn1 : n1 ≤ 100000 := by
          have h9 := h1.len
          have h8 := digits_few hw.2.2
          have h7 : s.data.toList.length = s.size := rfl
          omega
        have hds : (⟨(dec (pval s.data.toList)).toArray⟩ : ByteArray) = s := by rw [dec_pval hw]
        have HDS := hide hds
        clear hds hb2 hb1 h1
        go_wp2_with fail
        refine (same_yes _ _ _ _ _ _ _ _ h1' h2).mono ?_
        rintro e w3 ⟨rfl, hb3⟩
        have hB3 := below_step hb3 hB
        have h1'' := h1'.below hb3
        clear h1' h2 hb3 hB
        have hcall := text_any A1 n1 c1 _ w3 h1'' hn1
        rw [val_limbs, HDS.out] at hcall
        have HC := hide hcall
        clear hcall
        go_wp2_with fail
        refine HC.out.mono ?_
        rintro e w4 ⟨rfl, hb4⟩
        go_wp2
        go_ret
        exact ⟨rfl, below_step hb4 hB3⟩
      · obtain rfl := hno hw
        clear hok hno
        go_wp2_with fail
        refine (rparse_any s w1 (by omega) (by omega)).mono ?_
        rintro e w2 ⟨_, hno, hb2⟩
        obtain rfl := hno hw
        clear hno
        go_wp2_with fail
        refine (same_yes _ _ _ _ _ _ _ _ (Rd.nil _) (Rd.nil _)).mono ?_
        rintro e w3 ⟨rfl, hb3⟩
        go_wp2
        go_ret
        exact ⟨rfl, below_step hb3 (below_step hb2 hb1)⟩
end Go.Proofs.YtfggecdgnidhfaaDoor
