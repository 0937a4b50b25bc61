/- The walks over polynomials, for what reads as a polynomial in any form. -/
import Derived.Test.YtonimfogmplgdaaPolyX
import Derived.Test.YtonimfogmplgdaaPolyS
namespace Go.Proofs.Ytonimfogmplgdaa
open Go.RowKit
/-- The slice value reads as the numbers xs, in any form, of at most K limbs; at most M of them. -/
structure PIn (w : World) (A : Option Addr) (n c : Nat) (xs : List Nat) (K M : Nat) : Prop where
  ex : ∃ ll, RdL w A n c ll ∧ (∀ k, (ll.getD k []).length ≤ K) ∧ ll.map val = xs
  few : n ≤ M
/-- .. in its form. -/
def IsPl (xs : List Nat) (K M : Nat) (v : Value) (w : World) : Prop := ∃ A n c, v = .slice A n c ∧ RdV (natC K) 0 w 1 A n c xs ∧ n ≤ M
theorem IsPl.lasting {xs : List Nat} {K M : Nat} : ∀ v w w', Below w.heap.size w w' → IsPl xs K M v w → IsPl xs K M v w' := fun _ _ _ hb ⟨A, n, c, h1, h2, h3⟩ => ⟨A, n, c, h1, h2.below hb, h3⟩
theorem PIn.below {w w' : World} {A : Option Addr} {n c K M : Nat} {xs : List Nat} (h : PIn w A n c xs K M) (hb : Below w.heap.size w w') : PIn w' A n c xs K M := by
  obtain ⟨⟨ll, h1, h2, h3⟩, h4⟩ := h
  exact ⟨⟨ll, h1.below hb, h2, h3⟩, h4⟩
theorem RdV.pin {w : World} {A : Option Addr} {n c K M : Nat} {xs : List Nat} (h : RdV (natC K) 0 w 1 A n c xs) (hM : n ≤ M) : PIn w A n c xs K M := ⟨⟨_, h.rdl, h.few, map_val_limbs xs⟩, hM⟩
theorem PIn.len {w : World} {A : Option Addr} {n c K M : Nat} {xs : List Nat} (h : PIn w A n c xs K M) : xs.length = n := by
  obtain ⟨⟨ll, h1, _, h3⟩, _⟩ := h
  rw [← h3, List.length_map]
  exact h1.len
/-- A call that returns a polynomial in its form. -/
def RetPl (xs : List Nat) (K M : Nat) (w : World) (e : Ending) (w' : World) : Prop := ∃ A n c, e = .returned (.slice A n c) ∧ RdV (natC K) 0 w' 1 A n c xs ∧ n ≤ M ∧ Below w.heap.size w w'
theorem RetP.pl {xs : List Nat} {K M : Nat} {w : World} (hM : xs.length ≤ M) {e : Ending} {w' : World} (h : RetP xs K w e w') : RetPl xs K M w e w' := by
  obtain ⟨A, n, c, h1, h2, h3⟩ := h
  exact ⟨A, n, c, h1, h2, by have := h2.len; omega, h3⟩
theorem addP_len (a b : List Nat) : (addP a b).length ≤ max a.length b.length := by
  have h := trimN_len_le (addL a b)
  unfold addP
  simpa [addL] using h
theorem mulP_len (a b : List Nat) : (mulP a b).length ≤ a.length + b.length := by
  have h := trimN_len_le (mulL (a.length + b.length) a b)
  unfold mulP
  simpa [mulL] using h
section
variable {w : World} {A A2 : Option Addr} {n c n2 c2 K L M M2 : Nat} {a b : List Nat}
theorem add_in (h : PIn w A n c a K M) (h' : PIn w A2 n2 c2 b K M) (hK : K ≤ 10000) (hM : M ≤ 10000) :
    Calls Try.prog 21 #[.agg #[], .slice A n c, .slice A2 n2 c2] w (RetPl (addP a b) (K + 1) M w) := by
  have l1 := h.len
  have l2 := h'.len
  obtain ⟨⟨ll, h1, h2, h3⟩, h4⟩ := h
  obtain ⟨⟨kk, k1, k2, k3⟩, k4⟩ := h'
  have := padd_any w A n c ll A2 n2 c2 kk K h1 h2 k1 k2 hK (by omega) (by omega)
  rw [h3, k3] at this
  exact this.mono fun _ _ hr => hr.pl (Nat.le_trans (addP_len a b) (by omega))
theorem radd_in (h : PIn w A n c a K M) (h' : PIn w A2 n2 c2 b K M) (hK : K ≤ 10000) (hM : M ≤ 10000) :
    Calls Try.prog 22 #[.slice A n c, .slice A2 n2 c2] w (RetPl (addP a b) (K + 1) M w) := by
  have l1 := h.len
  have l2 := h'.len
  obtain ⟨⟨ll, h1, h2, h3⟩, h4⟩ := h
  obtain ⟨⟨kk, k1, k2, k3⟩, k4⟩ := h'
  have := rpadd_any w A n c ll A2 n2 c2 kk K h1 h2 k1 k2 hK (by omega) (by omega)
  rw [h3, k3] at this
  exact this.mono fun _ _ hr => hr.pl (Nat.le_trans (addP_len a b) (by omega))
theorem mul_in (h : PIn w A n c a K M) (h' : PIn w A2 n2 c2 b L M2) (hK : K ≤ 10000) (hL : L ≤ 10000) (hM : M ≤ 10000) (hM2 : M2 ≤ 10000) :
    Calls Try.prog 23 #[.agg #[], .slice A n c, .slice A2 n2 c2] w (RetPl (mulP a b) (K + L + 1) (M + M2) w) := by
  have l1 := h.len
  have l2 := h'.len
  obtain ⟨⟨ll, h1, h2, h3⟩, h4⟩ := h
  obtain ⟨⟨kk, k1, k2, k3⟩, k4⟩ := h'
  have := pmul_any w A n c ll A2 n2 c2 kk K L h1 h2 k1 k2 hK hL (by omega) (by omega)
  rw [h3, k3] at this
  exact this.mono fun _ _ hr => hr.pl (Nat.le_trans (mulP_len a b) (by omega))
theorem rmul_in (h : PIn w A n c a K M) (h' : PIn w A2 n2 c2 b L M2) (hK : K ≤ 10000) (hL : L ≤ 10000) (hM : M ≤ 10000) (hM2 : M2 ≤ 10000) :
    Calls Try.prog 24 #[.slice A n c, .slice A2 n2 c2] w (RetPl (mulP a b) (K + L + 1) (M + M2) w) := by
  have l1 := h.len
  have l2 := h'.len
  obtain ⟨⟨ll, h1, h2, h3⟩, h4⟩ := h
  obtain ⟨⟨kk, k1, k2, k3⟩, k4⟩ := h'
  have := rpmul_any w A n c ll A2 n2 c2 kk K L h1 h2 k1 k2 hK hL (by omega) (by omega)
  rw [h3, k3] at this
  exact this.mono fun _ _ hr => hr.pl (Nat.le_trans (mulP_len a b) (by omega))
theorem poly_in (h : PIn w A n c a K M) (hK : K ≤ 10000) (hM : M ≤ 10000) :
    Calls Try.prog 26 #[.slice A n c] w (RetPl (trimN a) K M w) := by
  have l1 := h.len
  obtain ⟨⟨ll, h1, h2, h3⟩, h4⟩ := h
  have := poly_any w A n c ll K h1 h2 (by omega) (by omega)
  rw [h3] at this
  exact this.mono fun _ _ hr => hr.pl (Nat.le_trans (trimN_len_le a) (by omega))
theorem esame_in (h : PIn w A n c a K M) (h' : PIn w A2 n2 c2 b L M2) (hK : K ≤ 10000) (hL : L ≤ 10000) (hM : M ≤ 10000) (hM2 : M2 ≤ 10000) :
    Calls Try.prog 25 #[.agg #[], .slice A n c, .slice A2 n2 c2] w (Makes (.bool (decide (trimN a = trimN b))) w) := by
  obtain ⟨⟨ll, h1, h2, h3⟩, h4⟩ := h
  obtain ⟨⟨kk, k1, k2, k3⟩, k4⟩ := h'
  have := esame_any w A n c ll K h1 h2 A2 n2 c2 kk L k1 k2 (by omega) (by omega) (by omega) (by omega)
  rwa [h3, k3] at this
theorem psame_yes (h : RdV (natC K) 0 w 1 A n c a) (h' : RdV (natC L) 0 w 1 A2 n2 c2 b) (e : a = b) :
    Calls Try.prog 19 #[.slice A n c, .slice A2 n2 c2] w (Makes (.bool true) w) := by
  have := psame_any w K L A n c A2 n2 c2 a b h h'
  rwa [decide_eq_true e] at this
theorem esame_yes (h : PIn w A n c a K M) (h' : PIn w A2 n2 c2 b L M2) (hK : K ≤ 10000) (hL : L ≤ 10000) (hM : M ≤ 10000) (hM2 : M2 ≤ 10000) (e : trimN a = trimN b) :
    Calls Try.prog 25 #[.agg #[], .slice A n c, .slice A2 n2 c2] w (Makes (.bool true) w) := by
  have := esame_in h h' hK hL hM hM2
  rwa [decide_eq_true e] at this
theorem zero_in (w : World) (K : Nat) : Calls Try.prog 18 #[.agg #[]] w (RetPl [] K 0 w) := (pzero_any w K).mono fun _ _ hr => hr.pl (Nat.le_refl 0)
theorem one_in (w : World) : Calls Try.prog 20 #[.agg #[]] w (RetPl [1] 1 1 w) := (pone_any w).mono fun _ _ hr => hr.pl (Nat.le_refl 1)
end
theorem PIn.wide {w : World} {A : Option Addr} {n c K M : Nat} {xs : List Nat} (h : PIn w A n c xs K M) {K' M' : Nat} (hK : K ≤ K') (hM : M ≤ M') : PIn w A n c xs K' M' := by
  obtain ⟨⟨ll, h1, h2, h3⟩, h4⟩ := h
  exact ⟨⟨ll, h1, fun k => Nat.le_trans (h2 k) hK, h3⟩, Nat.le_trans h4 hM⟩
/-- The polynomial 1, written out. -/
theorem lit_one {w : World} {g : Nat} (hg : g = (w.alloc (.cells #[.int .u32 1] 33)).heap.size) :
    RdV (natC 1) 0 ((w.alloc (.cells #[.int .u32 1] 33)).alloc (.cells #[.slice (some ⟨w.heap.size, 0, none⟩) 1 1] 23)) 1 (some ⟨g, 0, none⟩) 1 1 [1] := by
  subst hg
  have h1 : Rd (w.alloc (.cells #[.int .u32 1] 33)) (some ⟨w.heap.size, 0, none⟩) 1 1 (limbs 1) := rd_lit1 _ rfl _ rfl (by omega) (by omega)
  refine ⟨rfl, Nat.le_refl _, by decide, fun _ => ⟨_, 0, rfl, by simp, fun k hk => ?_⟩⟩
  obtain rfl : k = 0 := by omega
  exact ⟨_, by rw [cell_of_row _ _ _ _ _ _ (heap_alloc_new _ _)]; rfl, some ⟨w.heap.size, 0, none⟩, 1, 1, rfl, h1.below (below_alloc _ _), Nat.le_refl _⟩
/-- A polynomial that came in: how great it is. -/
theorem pin_of {w : World} {A : Option Addr} {n c : Nat} {ll : List (List Nat)} (h : RdL w A n c ll) (hs : size1 ll ≤ 120) : PIn w A n c (ll.map val) 120 120 := by
  unfold size1 at hs
  have h1 : ∀ (l : List (List Nat)) (k : Nat), (l.getD k []).length ≤ (l.map List.length).sum := by
    intro l
    induction l with
    | nil => intro k; exact Nat.zero_le _
    | cons x l ih =>
      intro k
      cases k with
      | zero => simp
      | succ k =>
        have := ih k
        simp only [List.map_cons, List.sum_cons]
        simp only [List.getD_eq_getElem?_getD, List.getElem?_cons_succ] at this ⊢
        omega
  exact ⟨⟨ll, h, fun k => Nat.le_trans (h1 ll k) (by omega), rfl⟩, by have := h.len; omega⟩
end Go.Proofs.Ytonimfogmplgdaa
