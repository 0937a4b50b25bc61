/- The text of a rational and the parts of a text, in plain Lean. -/
import Derived.Test.YtfggecdgnidhfaaDoorDecM
import Derived.Test.YtfggecdgnidhfaaDoorRatMath
import Derived.Lib.IndexMore
import Derived.Lib.Strings
namespace Go.Proofs.YtfggecdgnidhfaaDoor
/-- The text of a rational. -/
def qtxt (q : Rat) : List UInt8 := (if qneg q then [45] else []) ++ (dec q.num.natAbs ++ (if q.den = 1 then [] else 47 :: dec q.den))
def isNeg (l : List UInt8) : Bool := l.head? == some 45
def bodyT (l : List UInt8) : List UInt8 := if isNeg l then l.drop 1 else l
def slash : List UInt8 → Nat
  | [] => 0
  | c :: l => if c = 47 then 0 else slash l + 1
def topT (l : List UInt8) : List UInt8 := (bodyT l).take (slash (bodyT l))
def botT (l : List UInt8) : List UInt8 := (bodyT l).drop (slash (bodyT l) + 1)
def hasB (l : List UInt8) : Bool := decide (slash (bodyT l) < (bodyT l).length)
def wellQ (l : List UInt8) : Prop := wellD (topT l) ∧ (hasB l = true → wellD (botT l))
def denT (l : List UInt8) : Nat := if hasB l then pval (botT l) else 1
def valQ (l : List UInt8) : Rat := ratOf (isNeg l) (pval (topT l)) (denT l)
theorem slash_le : ∀ l, slash l ≤ l.length
  | [] => Nat.le_refl _
  | c :: l => by
    unfold slash
    split
    · exact Nat.zero_le _
    · simpa using slash_le l
theorem slash_at : ∀ l, slash l < l.length → l.getD (slash l) 0 = 47
  | [], h => by simp [slash] at h
  | c :: l, h => by
    unfold slash at h ⊢
    split
    · next h1 => simpa using h1
    · next h1 =>
      rw [if_neg h1] at h
      have := slash_at l (by simpa using h)
      simpa using this
theorem slash_no : ∀ l j, j < slash l → l.getD j 0 ≠ 47
  | [], j, h => by simp [slash] at h
  | c :: l, j, h => by
    unfold slash at h
    split at h
    · omega
    · next h1 =>
      cases j with
      | zero => simpa using h1
      | succ j =>
        have := slash_no l j (by omega)
        simpa using this
theorem slash_app : ∀ (l m : List UInt8), (∀ c ∈ l, c ≠ 47) → slash (l ++ m) = l.length + slash m
  | [], m, _ => by simp
  | c :: l, m, h => by
    have h1 := slash_app l m fun x hx => h x (List.mem_cons_of_mem _ hx)
    rw [List.cons_append]
    unfold slash
    rw [if_neg (h c List.mem_cons_self), h1]
    cases m <;> simp [slash] <;> omega
theorem index_slash : ∀ l, Lib.index l [47] = if slash l < l.length then (slash l : Int) else -1
  | [] => rfl
  | c :: l => by
    have h1 := index_slash l
    unfold Lib.index slash
    by_cases h : c = 47
    · subst h
      simp
    · have h2 : List.isPrefixOf [47] (c :: l) = false := by
        simp only [List.isPrefixOf, Bool.and_true]
        simpa using fun h3 => h h3.symm
      rw [h2, if_neg (by decide), if_neg h, h1]
      by_cases h3 : slash l < l.length
      · rw [if_pos h3, if_neg (by simp <;> omega), if_pos (by simpa using h3)]
        simp
      · rw [if_neg h3, if_neg (show ¬ slash l + 1 < (c :: l).length by simpa using h3)]
        rfl
theorem cut_slash (l : List UInt8) : Lib.cut l [47] = (l.take (slash l), l.drop (slash l + 1), decide (slash l < l.length)) := by
  unfold Lib.cut
  rw [index_slash]
  by_cases h : slash l < l.length
  · rw [if_pos h, if_pos (by omega), decide_eq_true h]
    simp
  · have h1 : slash l = l.length := Nat.le_antisymm (slash_le l) (by omega)
    rw [if_neg h, if_neg (by decide), decide_eq_false h, h1]
    simp
theorem hasPrefix_neg (l : List UInt8) : Lib.hasPrefix l [45] = isNeg l := by
  unfold Lib.hasPrefix isNeg
  cases l with
  | nil => rfl
  | cons c l =>
    simp only [List.isPrefixOf, Bool.and_true, List.head?_cons]
    by_cases h : c = 45
    · subst h; rfl
    · have h1 : ((45 : UInt8) == c) = false := by simpa using fun h3 => h h3.symm
      have h2 : (some c == some (45 : UInt8)) = false := by simpa using h
      rw [h1, h2]
theorem trimPrefix_neg (l : List UInt8) : Lib.trimPrefix l [45] = bodyT l := by
  unfold Lib.trimPrefix bodyT
  rw [hasPrefix_neg]
  rfl
theorem bodyT_len (l : List UInt8) : (bodyT l).length ≤ l.length := by
  unfold bodyT
  split
  · simp
  · exact Nat.le_refl _
theorem topT_len (l : List UInt8) : (topT l).length ≤ l.length := by
  have := bodyT_len l
  unfold topT
  rw [List.length_take]
  omega
theorem botT_len (l : List UInt8) : (botT l).length ≤ l.length := by
  have := bodyT_len l
  unfold botT
  rw [List.length_drop]
  omega
theorem dec_not (N : Nat) {x : UInt8} (hx : x.toNat < 48) : ∀ c ∈ dec N, c ≠ x := by
  intro c hc h
  have := (dec_isDg N c hc).1
  rw [h] at this
  omega
theorem isNeg_dec (N : Nat) (m : List UInt8) : isNeg (dec N ++ m) = false := by
  have h0 := (dec_well N).1
  have h1 := dec_not N (x := 45) (by decide)
  unfold isNeg
  generalize dec N = l at *
  cases l with
  | nil => exact absurd rfl h0
  | cons c l => simpa using h1 c List.mem_cons_self
theorem text_neg (q : Rat) : isNeg (qtxt q) = qneg q := by
  unfold qtxt
  by_cases h : qneg q = true
  · rw [if_pos h, h]
    rfl
  · rw [if_neg h, List.nil_append, isNeg_dec]
    simpa using h
theorem text_body (q : Rat) : bodyT (qtxt q) = dec q.num.natAbs ++ (if q.den = 1 then [] else 47 :: dec q.den) := by
  unfold bodyT
  rw [text_neg]
  unfold qtxt
  by_cases h : qneg q = true
  · rw [if_pos h, if_pos h]
    rfl
  · rw [if_neg h, if_neg h]
    rfl
theorem text_parse (q : Rat) : wellQ (qtxt q) ∧ valQ (qtxt q) = q := by
  have hb := text_body q
  have hs := slash_app (dec q.num.natAbs) (if q.den = 1 then [] else 47 :: dec q.den) (dec_not _ (by decide))
  rw [← hb] at hs
  by_cases hd : q.den = 1
  · rw [if_pos hd] at hs hb
    simp only [slash, Nat.add_zero, List.append_nil] at hs hb
    have ht : topT (qtxt q) = dec q.num.natAbs := by
      unfold topT
      rw [hs, hb, List.take_of_length_le (Nat.le_refl _)]
    have hh : hasB (qtxt q) = false := by
      unfold hasB
      rw [hs, hb]
      simp
    refine ⟨⟨ht ▸ dec_well _, fun h => by rw [hh] at h; cases h⟩, ?_⟩
    unfold valQ denT
    rw [hh, ht, pval_dec, text_neg]
    have := ratOf_self q
    rw [hd] at this
    exact this
  · rw [if_neg hd] at hs hb
    have hz : slash (47 :: dec q.den) = 0 := by unfold slash; rw [if_pos rfl]
    rw [hz, Nat.add_zero] at hs
    have ht : topT (qtxt q) = dec q.num.natAbs := by
      unfold topT
      rw [hs, hb, List.take_append_of_le_length (Nat.le_refl _), List.take_of_length_le (Nat.le_refl _)]
    have hh : hasB (qtxt q) = true := by
      unfold hasB
      rw [hs, hb]
      simp
    have hbt : botT (qtxt q) = dec q.den := by
      unfold botT
      rw [hs, hb, List.drop_append, List.drop_of_length_le (by omega)]
      simp
    refine ⟨⟨ht ▸ dec_well _, fun _ => hbt ▸ dec_well _⟩, ?_⟩
    unfold valQ denT
    rw [hh, ht, hbt, pval_dec, pval_dec, text_neg]
    exact ratOf_self q
theorem qtxt_len (q : Rat) : (qtxt q).length ≤ (dec q.num.natAbs).length + (dec q.den).length + 2 := by
  unfold qtxt
  split <;> split <;> simp <;> omega
end Go.Proofs.YtfggecdgnidhfaaDoor
