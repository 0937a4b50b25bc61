/- The walk of the law RationalParses. -/
import Derived.Test.YtfggecdgnidhfaaDoorQRefParse
import Derived.Shelf.Vars
namespace Go.Proofs.YtfggecdgnidhfaaDoor
open Go.RowKit
theorem max_cell {w : World} (h : w.ShapedOpen Tryd.prog) : ∃ m, w.cell? ⟨0, 0, none⟩ = some (.int .i64 m) :=
  cell_of_shapedOpen_int (P := Tryd.prog) (g := 0) (t := 3) (zero := #[.int .i64 0]) h (of_decide_eq_true (by kernel_rfl)) (by kernel_rfl) rfl (by kernel_rfl) (by kernel_rfl) Tryd.underlying3
theorem nil_sameq (w : World) : Calls Tryd.prog 16 #[.agg #[.bool false, .slice none 0 0, .slice none 0 0], .agg #[.bool false, .slice none 0 0, .slice none 0 0]] w (Makes (.bool true) w) := by
  have h := lsameq_any false none 0 0 [] none 0 0 [] false none 0 0 [] none 0 0 [] w (Rd.nil _) (Rd.nil _) (Rd.nil _) (Rd.nil _)
  rwa [show (decide (false = false) && decide (([] : List Nat) = []) && decide (([] : List Nat) = [])) = true from rfl] at h
set_option maxHeartbeats 4000000 in
set_option maxRecDepth 10000 in
theorem parses_err (s : ByteArray) (w : World) (E : Int) (hE : (E != 0) = true) (h1 : Calls Tryd.prog 14 #[.string s] w (ErrQ E w))
    (h2 : ∀ w', Below w.heap.size w w' → Calls Tryd.prog 18 #[.string s] w' (ErrQ E w')) (hsz : 10000 < s.size ∨ s.size ≤ 400) :
    Calls Tryd.prog 6 #[.string s] w (Makes (.bool true) w) := by
  have H2 := hide h2
  clear h2
  go_enter Tryd.func6, Tryd.ntmps6
  rcases hsz with hsz | hsz
  all_goals
    go_wp2_with fail
    refine h1.mono ?_
    rintro e w1 ⟨rfl, hb1⟩
    obtain ⟨W1, hW1, hS1, q1⟩ := box1 w1 false none 0 0 none 0 0
    have HW1 := hide hW1
    have hB1 := below_step hS1 hb1
    clear h1 hb1 hW1
    go_wp2_with fail
    rw [← HW1.out]
    refine (H2.out W1 hB1).mono ?_
    rintro e w2 ⟨rfl, hb2⟩
    obtain ⟨W2, hW2, hS2, q2⟩ := box1 w2 false none 0 0 none 0 0
    have HW2 := hide hW2
    have hb22 := below_step hS2 hb2
    have hc1 := (q1.below hb2).cells
    have hz1 := (q1.below hb2).2
    have hne : ¬ w1.heap.size = w2.heap.size := by omega
    have hne' : ¬ w2.heap.size = w1.heap.size := by omega
    have hB2 := below_step hb22 hB1
    clear hW2 hb2 hS2 hb22 q1 q2 hB1 hS1
    go_wp2_with fail
    rw [← HW2.out]
    refine (nil_sameq _).mono ?_
    rintro e w3 ⟨rfl, hb3⟩
    go_wp2
    go_ret
    exact ⟨rfl, below_step hb3 hB2⟩
set_option maxHeartbeats 4000000 in
set_option maxRecDepth 10000 in
theorem law_RationalParses (w : World) (hmx : ∃ m, w.cell? ⟨0, 0, none⟩ = some (.int .i64 m)) (s : ByteArray) (hs0 : s.size ≤ maxLen) :
    Calls Tryd.prog 6 #[.string s] w (Makes (.bool true) w) := by
  have hs63 : s.size ≤ 9223372036854775807 := hs0
  by_cases hbig : 10000 < s.size
  · exact parses_err s w 8 rfl (qparse_big s w hbig) (fun w' _ => rqparse_big s w' hbig) (.inl hbig)
  · by_cases hmid : 400 < s.size
    · clear hs0 hmx
      go_enter Tryd.func6, Tryd.ntmps6
      go_wp2
      go_ret
      exact ⟨rfl, Below.refl _ _⟩
    · have hc1 := qparse_any s w (by omega) hmx
      have hc2 : ∀ w', Calls Tryd.prog 18 #[.string s] w' (RetQP s.data.toList 1000 w') := fun w' => rqparse_any s w' (by omega)
      by_cases hw : wellQ s.data.toList
      · by_cases ht : qtxt (valQ s.data.toList) = s.data.toList
        · have hss : (⟨(qtxt (valQ s.data.toList)).toArray⟩ : ByteArray) = s := mk_list ht.symm
          obtain ⟨r, hr⟩ : ∃ r, r = valQ s.data.toList := ⟨_, rfl⟩
          have hd1 : Calls Tryd.prog 14 #[.string s] w (RetQE r 1000 w) := hc1.mono fun e w' ⟨_, _, h3, hb⟩ => by
            obtain ⟨A, n, c, B, m, d, h4, h5⟩ := h3 hw ht
            exact ⟨A, n, c, B, m, d, hr ▸ h4, hr ▸ h5, hb⟩
          have hd2 : ∀ w', Calls Tryd.prog 18 #[.string s] w' (RetQE r 1000 w') := fun w' => (hc2 w').mono fun e w' ⟨_, _, h3, hb⟩ => by
            obtain ⟨A, n, c, B, m, d, h4, h5⟩ := h3 hw ht
            exact ⟨A, n, c, B, m, d, hr ▸ h4, hr ▸ h5, hb⟩
          rw [← hr] at hss
          have HSS := hide hss
          have HD2 := hide hd2
          have hse : (s.toList == s.toList) = true := by simp
          clear hc1 hc2 hw ht hss hd2 hr hmx hs0
          go_enter Tryd.func6, Tryd.ntmps6
          go_wp2_with fail
          refine hd1.mono ?_
          rintro e w1 ⟨A1, n1, c1, B1, m1, d1, rfl, can1, hb1⟩
          obtain ⟨W1, hW1, hS1, q1⟩ := box1 w1 (qneg r) A1 n1 c1 B1 m1 d1
          have HW1 := hide hW1
          have hB1 := below_step hS1 hb1
          replace can1 := can1.below hS1
          clear hd1 hb1 hW1
          go_wp2_with fail
          rw [← HW1.out]
          refine (HD2.out W1).mono ?_
          rintro e w2 ⟨A2, n2, c2, B2, m2, d2, rfl, can2, hb2⟩
          obtain ⟨W2, hW2, hS2, q2⟩ := box1 w2 (qneg r) A2 n2 c2 B2 m2 d2
          have HW2 := hide hW2
          have hb22 := below_step hS2 hb2
          replace can2 := can2.below hS2
          replace can1 := can1.below hb22
          have q12 := q1.below hb22
          have hc1 := (q1.below hb2).cells
          have hz1 := (q1.below hb2).2
          have hne : ¬ w1.heap.size = w2.heap.size := by omega
          have hne' : ¬ w2.heap.size = w1.heap.size := by omega
          have hB2 := below_step hb22 hB1
          clear hW2 hb2 hS2 hb22 q1 q2 hB1 hS1
          go_wp2_with fail
          rw [← HW2.out]
          refine (same_q_yes can1 can2 rfl).mono ?_
          rintro e w3 ⟨rfl, hb3⟩
          have can13 := can1.below hb3
          have hcall := qtext_any _ _ _ _ _ _ _ r 1000 w3 can13.raw (by omega) (by omega)
          rw [HSS.out] at hcall
          have hB3 := below_step hb3 hB2
          have hc13 := (q12.below hb3).cells
          clear can1 can2 can13 hc1 hb3 hB2 q12
          go_wp2_with fail
          refine hcall.mono ?_
          rintro e w4 ⟨rfl, hb4⟩
          go_wp2
          go_ret
          exact ⟨rfl, below_step hb4 hB3⟩
        · exact parses_err s w 5 rfl (hc1.mono fun e w' ⟨_, h2, _, hb⟩ => ⟨h2 hw ht, hb⟩) (fun w' _ => (hc2 w').mono fun e w' ⟨_, h2, _, hb⟩ => ⟨h2 hw ht, hb⟩) (.inr (by omega))
      · exact parses_err s w 14 rfl (hc1.mono fun e w' ⟨h2, _, _, hb⟩ => ⟨h2 hw, hb⟩) (fun w' _ => (hc2 w').mono fun e w' ⟨h2, _, _, hb⟩ => ⟨h2 hw, hb⟩) (.inr (by omega))
end Go.Proofs.YtfggecdgnidhfaaDoor
