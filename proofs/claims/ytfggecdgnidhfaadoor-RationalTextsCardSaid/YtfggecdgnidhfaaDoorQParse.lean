/- The number of a rational's text: the walk of rational.Parse. -/
import Derived.Test.YtfggecdgnidhfaaDoorQText
namespace Go.Proofs.YtfggecdgnidhfaaDoor
open Go.RowKit
/-- What Parse returns for a text that is not too long. -/
def RetQP (l : List UInt8) (K : Nat) (w : World) (e : Ending) (w' : World) : Prop :=
  (¬ wellQ l → e = .returned (.tuple #[.agg #[.bool false, .slice none 0 0, .slice none 0 0], .int .i64 14])) ∧ (wellQ l → qtxt (valQ l) ≠ l → e = .returned (.tuple #[.agg #[.bool false, .slice none 0 0, .slice none 0 0], .int .i64 5])) ∧
    (wellQ l → qtxt (valQ l) = l → ∃ A n c B m d, e = .returned (.tuple #[.agg #[.bool (qneg (valQ l)), .slice A n c, .slice B m d], .int .i64 0]) ∧ CanQ w' A n c B m d (valQ l) K) ∧ Below w.heap.size w w'
theorem wellD_nil {l : List UInt8} (h : l.length = 0) : ¬ wellD l := fun h1 => h1.1 (List.eq_nil_of_length_eq_zero h)
theorem parse_all (s : ByteArray) (w : World) (l : List UInt8) (hl : s.data.toList = l) (hs : s.size ≤ 10000) : Calls Tryd.prog 8 #[.string s] w (RetParse l w) := by
  subst hl
  rcases Nat.eq_zero_or_pos s.size with h | h
  · exact (parse_empty s w h).mono fun e w' ⟨h1, h2⟩ => ⟨fun h3 => absurd h3 (wellD_nil h), fun _ => h1, h2⟩
  · exact parse_any s w hs h
theorem rparse_all (s : ByteArray) (w : World) (l : List UInt8) (hl : s.data.toList = l) (hs : s.size ≤ 10000) : Calls Tryd.prog 12 #[.string s] w (RetParse l w) := by
  subst hl
  rcases Nat.eq_zero_or_pos s.size with h | h
  · exact (rparse_empty s w h).mono fun e w' ⟨h1, h2⟩ => ⟨fun h3 => absurd h3 (wellD_nil h), fun _ => h1, h2⟩
  · exact rparse_any s w hs h
theorem mk_list {T : ByteArray} {l : List UInt8} (h : T.data.toList = l) : (⟨l.toArray⟩ : ByteArray) = T := by
  subst h
  apply ByteArray.ext
  simp
theorem cutp_any (s T : ByteArray) (b : Bool) (w : World) (hT : T.data.toList = bodyT s.data.toList) (hb : isNeg s.data.toList = b) :
    Calls Tryd.prog 32 #[.string s, .string ⟨#[45]⟩] w (fun e w' => e = .returned (.tuple #[.string T, .bool b]) ∧ w' = w) := by
  have h1 := Tryd.strings_CutPrefix s ⟨#[45]⟩ w
  rw [show (⟨#[45]⟩ : ByteArray).data.toList = [45] from rfl, trimPrefix_neg, hasPrefix_neg, hb, mk_list hT] at h1
  exact h1
theorem cut_any (T U V : ByteArray) (b : Bool) (w : World) (hs : T.size ≤ 10000) (hm : ∃ m, w.cell? ⟨0, 0, none⟩ = some (.int .i64 m)) (hU : U.data.toList = T.data.toList.take (slash T.data.toList)) (hV : V.data.toList = T.data.toList.drop (slash T.data.toList + 1)) (hb : decide (slash T.data.toList < T.data.toList.length) = b) :
    Calls Tryd.prog 33 #[.string T, .string ⟨#[47]⟩] w (fun e w' => e = .returned (.tuple #[.string U, .string V, .bool b]) ∧ Below w.heap.size w w') := by
  obtain ⟨m, hm⟩ := hm
  have h1 := Tryd.strings_Cut T ⟨#[47]⟩ m w (by omega) hm
  rw [show (⟨#[47]⟩ : ByteArray).data.toList = [47] from rfl, cut_slash, mk_list hU, mk_list hV, hb] at h1
  exact h1.mono fun e w' ⟨h2, n, h3⟩ => ⟨h2, h3 ▸ below_drewN (Below.refl _ _) n⟩
theorem cell_below {w w' : World} {v : Value} (hb : Below w.heap.size w w') (h : w.cell? ⟨0, 0, none⟩ = some v) : w'.cell? ⟨0, 0, none⟩ = some v := by
  have h0 : 0 < w.heap.size := by
    rcases Nat.eq_zero_or_pos w.heap.size with h1 | h1
    · simp [World.cell?, Array.eq_empty_of_size_eq_zero h1] at h
    · exact h1
  exact (hb.cell (p := ⟨0, 0, none⟩) h0).trans h
theorem max_below {w w' : World} (hb : Below w.heap.size w w') (h : ∃ m, w.cell? ⟨0, 0, none⟩ = some (.int .i64 m)) : ∃ m, w'.cell? ⟨0, 0, none⟩ = some (.int .i64 m) :=
  let ⟨m, hm⟩ := h
  ⟨m, cell_below hb hm⟩
theorem size_len (s : ByteArray) : s.data.toList.length = s.size := rfl
/-- The parts of a text. -/
theorem parts (s : ByteArray) : ∃ T U V : ByteArray, T.data.toList = bodyT s.data.toList ∧ U.data.toList = topT s.data.toList ∧ V.data.toList = botT s.data.toList ∧ T.size ≤ s.size ∧ U.size ≤ s.size ∧ V.size ≤ s.size := by
  have h1 := bodyT_len s.data.toList
  have h2 := topT_len s.data.toList
  have h3 := botT_len s.data.toList
  refine ⟨⟨(bodyT s.data.toList).toArray⟩, ⟨(topT s.data.toList).toArray⟩, ⟨(botT s.data.toList).toArray⟩, by simp, by simp, by simp, ?_, ?_, ?_⟩
  · exact Nat.le_trans (Nat.le_of_eq List.size_toArray) h1
  · exact Nat.le_trans (Nat.le_of_eq List.size_toArray) h2
  · exact Nat.le_trans (Nat.le_of_eq List.size_toArray) h3
theorem rd_few {w : World} {A : Option Addr} {n c : Nat} {l : List UInt8} {K : Nat} (h : Rd w A n c (limbs (pval l))) (hd : wellD l) (hl : l.length ≤ K) : n ≤ K := by
  have h1 := digits_few hd.2.2
  have h2 := h.len
  omega
set_option maxHeartbeats 1000000 in
theorem qparse_big (s : ByteArray) (w : World) (hs : 10000 < s.size) : Calls Tryd.prog 14 #[.string s] w (ErrQ 8 w) := by
  obtain ⟨W, hW, hS, q3⟩ := box1 w false none 0 0 none 0 0
  have hcg := q3.cells
  have hfg := q3.free
  have HW := hide hW
  clear hW
  go_enter Tryd.func14, Tryd.ntmps14
  go_wp2
  rw [← HW.out]
  exact bodyPost_ret (v := .tuple #[.agg #[.bool false, .slice none 0 0, .slice none 0 0], .int .i64 8]) (by simp [results, Tryd.results14, go_sem, hcg]) rfl ⟨rfl, hS⟩
set_option maxHeartbeats 4000000 in
set_option maxRecDepth 10000 in
theorem qparse_any (s : ByteArray) (w : World) (hs : s.size ≤ 1000) (hmx : ∃ m, w.cell? ⟨0, 0, none⟩ = some (.int .i64 m)) : Calls Tryd.prog 14 #[.string s] w (RetQP s.data.toList 1000 w) := by
  obtain ⟨T, U, V, hT, hU, hV, lT, lU, lV⟩ := parts s
  obtain ⟨S, hSd⟩ : ∃ S, S = s.data.toList := ⟨_, rfl⟩
  have hSl : S.length = s.size := by rw [hSd]; rfl
  have HSB : Hid ((⟨S.toArray⟩ : ByteArray) = s) := mk_list hSd.symm
  obtain ⟨neg, hneg⟩ : ∃ b, isNeg S = b := ⟨_, rfl⟩
  obtain ⟨has, hhas⟩ : ∃ b, hasB S = b := ⟨_, rfl⟩
  obtain ⟨r, hr⟩ : ∃ r, r = valQ S := ⟨_, rfl⟩
  obtain ⟨W, hW, hS, q3⟩ := box1 w false none 0 0 none 0 0
  have hcall1 := cutp_any s T neg W hT (hSd ▸ hneg)
  have hcall2 := cut_any T U V has W (by omega) (max_below hS hmx) (by rw [hU, hT]; rfl) (by rw [hV, hT]; rfl) (by rw [hT, ← hSd]; exact hhas)
  rw [← hSd] at hU hV ⊢
  have HU := hide hU
  have HV := hide hV
  have HW := hide hW
  have HNG := hide hneg
  have HHS := hide hhas
  have HR := hide hr
  have lTop : (topT S).length ≤ 1000 := by have := topT_len S; omega
  have lBot : (botT S).length ≤ 1000 := by have := botT_len S; omega
  have HTL := hide lTop
  have HBL := hide lBot
  have hs1 : (s.size : Int) ≤ 10000 := by omega
  clear hW hT hU hV hmx hneg hhas hr hSd hSl lTop lBot lT
  go_enter Tryd.func14, Tryd.ntmps14
  go_wp2_with fail
  rw [← HW.out]
  refine hcall1.mono ?_
  rintro e w0 ⟨rfl, rfl⟩
  clear hcall1
  obtain ⟨W, hWW⟩ : ∃ W : World, W = w0 := ⟨_, rfl⟩
  subst hWW
  go_wp2_with fail
  refine hcall2.mono ?_
  rintro e w1 ⟨rfl, hb1⟩
  have hB1 := below_step hb1 hS
  have q31 := q3.below hb1
  clear hcall2 hb1 hS q3
  go_wp2_with fail
  refine (parse_all U w1 _ HU.out (by omega)).mono ?_
  rintro e w2 ⟨hok, hno, hb2⟩
  have hB2 := below_step hb2 hB1
  have q32 := q31.below hb2
  clear hB1 q31 hb2
  by_cases h1 : wellD (topT S)
  · obtain ⟨A1, n1, c1, rfl, r1⟩ := hok h1
    have hn1 := rd_few r1 h1 HTL.out
    have H1 := hide h1
    clear hok hno h1
    go_wp2_with fail
    refine (qone_ret _).mono ?_
    rintro e w3 ⟨A9, rfl, h9, hb3⟩
    have r13 := r1.below hb3
    have q33 := q32.below hb3
    have hB3 := below_step hb3 hB2
    clear r1 q32 hB2 hb3
    cases has with
    | false =>
      have HWQ : Hid (wellQ S) := ⟨H1.out, fun h => by rw [HHS.out] at h; cases h⟩
      have HE : Hid (ratOf neg (val (limbs (pval (topT S)))) (val (limbs 1)) = r) := by
        rw [Hid, val_limbs, val_limbs, HR.out]
        unfold valQ denT
        rw [HHS.out, HNG.out]
        rfl
      have q3w := q33
      have hBw := hB3
      clear q33 hB3
      go_wp2_with fail
      refine (canonical_eq (K := 1000) r13 h9 HE.out (by omega) (by omega) (by omega) (by omega)).mono ?_
      rintro e w6 ⟨A', n', c', B', m', d', rfl, hcan, hb6⟩
      obtain ⟨W6, hW6, hS6, q6⟩ := box1 w6 (qneg r) A' n' c' B' m' d'
      have HW6 := hide hW6
      have hc6 := q6.cells
      have hcan6 := hcan.below hS6
      have hb66 := below_step hS6 hb6
      have hB6 := below_step hb66 hBw
      have q36 := q3w.below hb66
      have hcall := qtext_any _ _ _ _ _ _ _ r 1000 W6 hcan6.raw (by omega) (by omega)
      clear hW6 hcan hb6 hb66 q3w hBw
      go_wp2_with fail
      rw [← HW6.out]
      by_cases hq : qtxt r = S
      · have HQ := hide hq
        rw [hq, HSB.out] at hcall
        refine hcall.mono ?_
        rintro e w7 ⟨rfl, hb7⟩
        have q37 := q36.below hb7
        have hcg := q37.cells
        have hfg := q37.free
        have hc7 := (q6.below hb7).cells
        have hcan7 := hcan6.below hb7
        have hB7 := below_step hb7 hB6
        clear hc6 hq hcall q36 q6 HW6
        go_wp2
        exact bodyPost_ret (v := .tuple #[.agg #[.bool (qneg r), .slice A' n' c', .slice B' m' d'], .int .i64 0]) (by simp [results, Tryd.results14, go_sem, hcg]) rfl ⟨fun h => absurd HWQ.out h, fun _ h => absurd (by rw [← HR.out]; exact HQ.out) h, fun _ _ => ⟨A', n', c', B', m', d', by rw [← HR.out], by rw [← HR.out]; exact hcan7.store3 q37.noNum⟩, below3 hB7 (Nat.le_refl _) _ _ _⟩
      · have HQ := hide hq
        obtain ⟨X, hX⟩ : ∃ X : ByteArray, X = ⟨(qtxt r).toArray⟩ := ⟨_, rfl⟩
        have hXs : (X.toList == s.toList) = false := by
          rw [beq_eq_false_iff_ne, hX, ← HSB.out, ByteArray.toList_eq, ByteArray.toList_eq]
          intro h
          exact hq (by simpa using h)
        rw [← hX] at hcall
        refine hcall.mono ?_
        rintro e w7 ⟨rfl, hb7⟩
        have q37 := q36.below hb7
        have hcg := q37.cells
        have hfg := q37.free
        have hB7 := below_step hb7 hB6
        clear hc6 hq hcall q36 q6 HW6 hX hcan6
        go_wp2
        exact bodyPost_ret (v := .tuple #[.agg #[.bool false, .slice none 0 0, .slice none 0 0], .int .i64 5]) (by simp [results, Tryd.results14, go_sem, hcg]) rfl ⟨fun h => absurd HWQ.out h, fun _ _ => rfl, fun _ h => absurd (by rw [HR.out]; exact h) HQ.out, below3 hB7 (Nat.le_refl _) _ _ _⟩
    | true =>
      go_wp2_with fail
      refine (parse_all V w3 _ HV.out (by omega)).mono ?_
      rintro e w4 ⟨hok, hno, hb4⟩
      have hBw := below_step hb4 hB3
      have q3w := q33.below hb4
      clear hB3 q33
      by_cases h2 : wellD (botT S)
      · obtain ⟨A2, n2, c2, rfl, r2⟩ := hok h2
        have hn2 := rd_few r2 h2 HBL.out
        have r14 := r13.below hb4
        have HWQ : Hid (wellQ S) := ⟨H1.out, fun _ => h2⟩
        have HE : Hid (ratOf neg (val (limbs (pval (topT S)))) (val (limbs (pval (botT S)))) = r) := by
          rw [Hid, val_limbs, val_limbs, HR.out]
          unfold valQ denT
          rw [HHS.out, HNG.out]
          rfl
        clear hok hno h2 r13 hb4 h9
        go_wp2_with fail
        refine (canonical_eq (K := 1000) r14 r2 HE.out (by omega) (by omega) (by omega) (by omega)).mono ?_
        rintro e w6 ⟨A', n', c', B', m', d', rfl, hcan, hb6⟩
        obtain ⟨W6, hW6, hS6, q6⟩ := box1 w6 (qneg r) A' n' c' B' m' d'
        have HW6 := hide hW6
        have hc6 := q6.cells
        have hcan6 := hcan.below hS6
        have hb66 := below_step hS6 hb6
        have hB6 := below_step hb66 hBw
        have q36 := q3w.below hb66
        have hcall := qtext_any _ _ _ _ _ _ _ r 1000 W6 hcan6.raw (by omega) (by omega)
        clear hW6 hcan hb6 hb66 q3w hBw
        go_wp2_with fail
        rw [← HW6.out]
        by_cases hq : qtxt r = S
        · have HQ := hide hq
          rw [hq, HSB.out] at hcall
          refine hcall.mono ?_
          rintro e w7 ⟨rfl, hb7⟩
          have q37 := q36.below hb7
          have hcg := q37.cells
          have hfg := q37.free
          have hc7 := (q6.below hb7).cells
          have hcan7 := hcan6.below hb7
          have hB7 := below_step hb7 hB6
          clear hc6 hq hcall q36 q6 HW6
          go_wp2
          exact bodyPost_ret (v := .tuple #[.agg #[.bool (qneg r), .slice A' n' c', .slice B' m' d'], .int .i64 0]) (by simp [results, Tryd.results14, go_sem, hcg]) rfl ⟨fun h => absurd HWQ.out h, fun _ h => absurd (by rw [← HR.out]; exact HQ.out) h, fun _ _ => ⟨A', n', c', B', m', d', by rw [← HR.out], by rw [← HR.out]; exact hcan7.store3 q37.noNum⟩, below3 hB7 (Nat.le_refl _) _ _ _⟩
        · have HQ := hide hq
          obtain ⟨X, hX⟩ : ∃ X : ByteArray, X = ⟨(qtxt r).toArray⟩ := ⟨_, rfl⟩
          have hXs : (X.toList == s.toList) = false := by
            rw [beq_eq_false_iff_ne, hX, ← HSB.out, ByteArray.toList_eq, ByteArray.toList_eq]
            intro h
            exact hq (by simpa using h)
          rw [← hX] at hcall
          refine hcall.mono ?_
          rintro e w7 ⟨rfl, hb7⟩
          have q37 := q36.below hb7
          have hcg := q37.cells
          have hfg := q37.free
          have hB7 := below_step hb7 hB6
          clear hc6 hq hcall q36 q6 HW6 hX hcan6
          go_wp2
          exact bodyPost_ret (v := .tuple #[.agg #[.bool false, .slice none 0 0, .slice none 0 0], .int .i64 5]) (by simp [results, Tryd.results14, go_sem, hcg]) rfl ⟨fun h => absurd HWQ.out h, fun _ _ => rfl, fun _ h => absurd (by rw [HR.out]; exact h) HQ.out, below3 hB7 (Nat.le_refl _) _ _ _⟩
      · obtain rfl := hno h2
        have HWQ : Hid (¬ wellQ S) := fun h => h2 (h.2 HHS.out)
        have hcg := q3w.cells
        have hfg := q3w.free
        clear hok hno h2 r13 hb4 h9
        go_wp2
        exact bodyPost_ret (v := .tuple #[.agg #[.bool false, .slice none 0 0, .slice none 0 0], .int .i64 14]) (by simp [results, Tryd.results14, go_sem, hcg]) rfl ⟨fun _ => rfl, fun h => absurd h HWQ.out, fun h => absurd h HWQ.out, below3 hBw (Nat.le_refl _) _ _ _⟩
  · obtain rfl := hno h1
    have HWQ : Hid (¬ wellQ S) := fun h => h1 h.1
    have hcg := q32.cells
    have hfg := q32.free
    clear hok hno h1
    go_wp2
    exact bodyPost_ret (v := .tuple #[.agg #[.bool false, .slice none 0 0, .slice none 0 0], .int .i64 14]) (by simp [results, Tryd.results14, go_sem, hcg]) rfl ⟨fun _ => rfl, fun h => absurd h HWQ.out, fun h => absurd h HWQ.out, below3 hB2 (Nat.le_refl _) _ _ _⟩
end Go.Proofs.YtfggecdgnidhfaaDoor
