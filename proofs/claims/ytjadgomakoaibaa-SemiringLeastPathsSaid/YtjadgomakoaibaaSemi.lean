/- The natural numbers as a semiring: the methods' contracts; how much a list of lists of numbers holds; that the package is alive. -/
import Derived.Test.YtjadgomakoaibaaTwo
import Derived.Test.YtjadgomakoaibaaCosts
namespace Go.Proofs.Ytjadgomakoaibaa
open Go.RowKit

/-- What has been made since a world. -/
def From (w w' : World) : Prop := Below w.heap.size w w'
theorem From.refl (w : World) : From w w := Below.refl _ _
theorem From.step {a b c : World} (h : From a b) (hb : Below b.heap.size b c) : From a c := below_step hb h
theorem From.drew {a b : World} (h : From a b) : From a b.drew := Below.drew h
theorem From.out {a b : World} (h : From a b) : Below a.heap.size a b := h
theorem Rd.up {w w' : World} (hb : Below w.heap.size w w') {A : Option Addr} {n c : Nat} {l : List Nat} (h : Rd w A n c l) : Rd w' A n c l := h.below hb
theorem Rd.drew {w : World} {A : Option Addr} {n c : Nat} {l : List Nat} (h : Rd w A n c l) : Rd w.drew A n c l := ⟨h.len, h.cap, h.max, h.lims, h.cells⟩

section
variable {w : World} {A B : Option Addr} {n c m d : Nat} {l k : List Nat}
theorem counting_zero (w : World) : Calls Try.prog 70 #[.agg #[]] w (RetB 0 0 w) := by
  go_enter Try.func70, Try.ntmps70
  go_wp2_with fail
  refine (of_any 0 _ (by omega)).mono ?_
  rintro e w1 ⟨A1, n1, c1, rfl, h1, hb1⟩
  have hlen := h1.len
  rw [limbs_zero] at hlen
  have hn1 : n1 ≤ 0 := by simpa using (Nat.le_of_eq hlen.symm)
  clear hlen
  go_wp2
  go_ret
  exact ⟨_, _, _, rfl, h1, below_step hb1 (below_alloc w _), hn1⟩
theorem counting_one (w : World) : Calls Try.prog 69 #[.agg #[]] w (RetB 1 1 w) := by
  go_enter Try.func69, Try.ntmps69
  go_wp2_with fail
  refine (of_any 1 _ (by omega)).mono ?_
  rintro e w1 ⟨A1, n1, c1, rfl, h1, hb1⟩
  have hn1 : n1 ≤ 1 := by rw [← h1.len]; exact length_limbs_le (by omega)
  go_wp2
  go_ret
  exact ⟨_, _, _, rfl, h1, below_step hb1 (below_alloc w _), hn1⟩
theorem counting_add (h : Rd w A n c l) (h' : Rd w B m d k) (hn : n ≤ 1000000) (hm : m ≤ 1000000) :
    Calls Try.prog 67 #[.agg #[], .slice A n c, .slice B m d] w (RetB (val l + val k) (n + m + 1) w) := by
  go_enter Try.func67, Try.ntmps67
  go_wp2_with fail
  refine (add2 (h.below (below_alloc w _)) (h'.below (below_alloc w _)) _ (by simp) hn hm).mono ?_
  rintro e w1 ⟨A1, n1, c1, rfl, h1, hb1, hn1⟩
  go_wp2
  go_ret
  exact ⟨_, _, _, rfl, h1, below_step hb1 (below_alloc w _), hn1⟩
theorem counting_mul (h : Rd w A n c l) (h' : Rd w B m d k) (hn : n ≤ 1000000) (hm : m ≤ 1000000) :
    Calls Try.prog 68 #[.agg #[], .slice A n c, .slice B m d] w (RetB (val l * val k) (n + m) w) := by
  go_enter Try.func68, Try.ntmps68
  go_wp2_with fail
  refine (mul2 (h.below (below_alloc w _)) (h'.below (below_alloc w _)) _ (by simp) hn hm).mono ?_
  rintro e w1 ⟨A1, n1, c1, rfl, h1, hb1, hn1⟩
  go_wp2
  go_ret
  exact ⟨_, _, _, rfl, h1, below_step hb1 (below_alloc w _), hn1⟩
end

theorem alive_any (w : World) : Calls Try.prog 7 #[] w (Makes (.bool true) w) := by
  go_enter Try.func7, Try.ntmps7
  go_wp2_with fail
  refine (minPlus_mul 3 5 _).mono ?_
  rintro e w1 ⟨rfl, hb1⟩
  rw [show cMul 3 5 = 8 from by decide]
  go_wp2
  go_ret
  exact ⟨rfl, hb1⟩

/-- A slice of slices of slices of limbs. -/
structure RdLL (w : World) (A : Option Addr) (n c : Nat) (lll : List (List (List Nat))) : Prop where
  len : lll.length = n
  cells : 0 < n → ∃ b off, A = some ⟨b, off, none⟩ ∧ b < w.heap.size ∧ ∀ j, j < n → ∃ Aj nj cj, w.cell? ⟨b, off + j, none⟩ = some (.slice Aj nj cj) ∧ RdL w Aj nj cj (lll.getD j [])

/-- How long a list of numbers is, with its numbers. -/
def size1 (ll : List (List Nat)) : Nat := ll.length + (ll.map List.length).sum
def sizeLL (lll : List (List (List Nat))) : Nat := (lll.map size1).sum
theorem sizeLL_take {lll : List (List (List Nat))} {i : Nat} (h : i < lll.length) : sizeLL (lll.take (i + 1)) = sizeLL (lll.take i) + size1 (lll.getD i []) := by
  rw [List.take_succ_eq_append_getElem h, List.getD_eq_getElem?_getD, List.getElem?_eq_getElem h]
  simp only [sizeLL, List.map_append, List.sum_append, List.map_cons, List.map_nil, List.sum_cons, List.sum_nil, Nat.add_zero]
  rfl
def sumLen (ll : List (List Nat)) : Nat := (ll.map List.length).sum
theorem sumLen_take {ll : List (List Nat)} {i : Nat} (h : i < ll.length) : sumLen (ll.take (i + 1)) = sumLen (ll.take i) + (ll.getD i []).length := by
  rw [List.take_succ_eq_append_getElem h, List.getD_eq_getElem?_getD, List.getElem?_eq_getElem h]
  simp only [sumLen, List.map_append, List.sum_append, List.map_cons, List.map_nil, List.sum_cons, List.sum_nil, Nat.add_zero]
  rfl

/-- The call says whether there is little; if it says yes, then there is. -/
def RetLittle (most : Nat) (lll : List (List (List Nat))) (w : World) (x : Ending) (w' : World) : Prop :=
  ∃ q : Bool, x = .returned (.bool q) ∧ w = w' ∧ (q = true → sizeLL lll ≤ most)

end Go.Proofs.Ytjadgomakoaibaa
