/- The natural numbers as a semiring: the methods' contracts; how much a list of lists of numbers holds; that the package is alive. -/
import Derived.Test.YtonimfogmplgdaaTwo
import Derived.Test.YtonimfogmplgdaaCosts
namespace Go.Proofs.Ytonimfogmplgdaa
open Go.RowKit

/-- What has been made since a world. -/
def From (w w' : World) : Prop := Below w.heap.size w w'
theorem From.refl (w : World) : From w w := Below.refl _ _
theorem From.step {a b c : World} (h : From a b) (hb : Below b.heap.size b c) : From a c := below_step hb h
theorem From.drew {a b : World} (h : From a b) : From a b.drew := Below.drew h
theorem From.out {a b : World} (h : From a b) : Below a.heap.size a b := h
theorem Rd.up {w w' : World} (hb : Below w.heap.size w w') {A : Option Addr} {n c : Nat} {l : List Nat} (h : Rd w A n c l) : Rd w' A n c l := h.below hb
theorem Rd.drew {w : World} {A : Option Addr} {n c : Nat} {l : List Nat} (h : Rd w A n c l) : Rd w.drew A n c l := ⟨h.len, h.cap, h.max, h.lims, h.cells⟩

section
variable {w : World} {A B : Option Addr} {n c m d : Nat} {l k : List Nat}
end

theorem alive_any (w : World) : Calls Try.prog 7 #[] w (Makes (.bool true) w) := by
  go_enter Try.func7, Try.ntmps7
  go_wp2_with fail
  refine (minPlus_mul 3 5 _).mono ?_
  rintro e w1 ⟨rfl, hb1⟩
  rw [show cMul 3 5 = 8 from by decide]
  go_wp2
  go_ret
  exact ⟨rfl, hb1⟩

/-- A slice of slices of slices of limbs. -/
structure RdLL (w : World) (A : Option Addr) (n c : Nat) (lll : List (List (List Nat))) : Prop where
  len : lll.length = n
  cells : 0 < n → ∃ b off, A = some ⟨b, off, none⟩ ∧ b < w.heap.size ∧ ∀ j, j < n → ∃ Aj nj cj, w.cell? ⟨b, off + j, none⟩ = some (.slice Aj nj cj) ∧ RdL w Aj nj cj (lll.getD j [])

/-- How long a list of numbers is, with its numbers. -/
def size1 (ll : List (List Nat)) : Nat := ll.length + (ll.map List.length).sum
def sizeLL (lll : List (List (List Nat))) : Nat := (lll.map size1).sum
theorem sizeLL_take {lll : List (List (List Nat))} {i : Nat} (h : i < lll.length) : sizeLL (lll.take (i + 1)) = sizeLL (lll.take i) + size1 (lll.getD i []) := by
  rw [List.take_succ_eq_append_getElem h, List.getD_eq_getElem?_getD, List.getElem?_eq_getElem h]
  simp only [sizeLL, List.map_append, List.sum_append, List.map_cons, List.map_nil, List.sum_cons, List.sum_nil, Nat.add_zero]
  rfl
def sumLen (ll : List (List Nat)) : Nat := (ll.map List.length).sum
theorem sumLen_take {ll : List (List Nat)} {i : Nat} (h : i < ll.length) : sumLen (ll.take (i + 1)) = sumLen (ll.take i) + (ll.getD i []).length := by
  rw [List.take_succ_eq_append_getElem h, List.getD_eq_getElem?_getD, List.getElem?_eq_getElem h]
  simp only [sumLen, List.map_append, List.sum_append, List.map_cons, List.map_nil, List.sum_cons, List.sum_nil, Nat.add_zero]
  rfl

/-- The call says whether there is little; if it says yes, then there is. -/
def RetLittle (most : Nat) (lll : List (List (List Nat))) (w : World) (x : Ending) (w' : World) : Prop :=
  ∃ q : Bool, x = .returned (.bool q) ∧ w = w' ∧ (q = true → sizeLL lll ≤ most)

set_option maxHeartbeats 1000000 in
theorem little_any (A : Option Addr) (n c : Nat) (lll : List (List (List Nat))) (w : World) (h : RdLL w A n c lll) (hn : n ≤ 10)
    (hs : ∀ ll ∈ lll, ll.length ≤ 35184372088832 ∧ ∀ l ∈ ll, l.length ≤ 35184372088832) :
    Calls Try.prog 6 #[.slice A n c] w (RetLittle 120 lll w) := by
  have hlen := hide h.len
  go_enter Try.func6, Try.ntmps6
  go_wp2_with fail
  go_loop [3, 4, 5] (fun nv iv _ => ∃ i v : Nat, i ≤ n ∧ iv = .int .i64 (i : Int) ∧ nv = .int .i64 (v : Int) ∧ v ≤ i * 70368744177664 + 120 ∧ (v ≤ 120 → v = sizeLL (lll.take i))) (fun _ iv _ => n - (intOf iv).toNat)
  case atStart => exact ⟨0, 0, Nat.zero_le _, rfl, rfl, by omega, fun _ => rfl⟩
  case round =>
    obtain ⟨i, v, hi, rfl, rfl, hv, hex⟩ := hrel
    have HE := hide hex
    clear hex
    by_cases hlt : i < n
    · obtain ⟨b, off, rfl, hb, hcells⟩ := h.cells (by omega)
      obtain ⟨Ai, ni, ci, hcell, hrd⟩ := hcells i hlt
      have hni := hrd.len
      have hil : i < lll.length := by rw [hlen.out]; exact hlt
      have HM : Hid (lll.getD i [] ∈ lll) := by
        rw [Hid, List.getD_eq_getElem?_getD, List.getElem?_eq_getElem hil]
        exact List.getElem_mem hil
      have hni2 : ni ≤ 35184372088832 := by rw [← hni]; exact (hs _ HM.out).1
      have HT := hide (sizeLL_take hil)
      have HNI := hide hni
      clear hcells hil hni
      generalize lll.getD i [] = ll at *
      go_wp2_with fail
      go_loop [3, 5] (fun nv jv => ∃ j u : Nat, j ≤ ni ∧ jv = .int .i64 (j : Int) ∧ nv = .int .i64 (u : Int) ∧ u ≤ (i + 1) * 70368744177664 + 120 ∧ (u ≤ 120 → u = sizeLL (lll.take i) + ll.length + sumLen (ll.take j))) (fun _ jv => ni - (intOf jv).toNat)
      case atStart => exact ⟨0, v + ni, Nat.zero_le _, rfl, by go_num, by omega, fun h9 => by rw [HNI.out, ← HE.out (by omega)]; simp [sumLen]⟩
      case round =>
        obtain ⟨j, u, hj, rfl, rfl, hu, hex⟩ := hrel
        have HU := hide hex
        clear hex
        by_cases hgo : j < ni ∧ u ≤ 120
        · obtain ⟨hjn, hu2⟩ := hgo
          obtain ⟨b2, off2, Aj, nj, cj, rfl, hb2, hcell2, hrd2⟩ := hrd.at hjn
          have hjl : j < ll.length := by rw [HNI.out]; exact hjn
          have hnj : nj ≤ 35184372088832 := by
            rw [← hrd2.len]
            refine (hs _ HM.out).2 _ ?_
            rw [List.getD_eq_getElem?_getD, List.getElem?_eq_getElem hjl]
            exact List.getElem_mem hjl
          have HNJ := hide hrd2.len
          have HST := hide (sumLen_take hjl)
          have hd1 : decide ((u : Int) ≤ 120) = true := decide_eq_true (by omega)
          clear hjl
          go_wp2
          go_round
          case rel => exact ⟨j + 1, u + nj, by omega, by go_num, by go_num, by omega, fun _ => by rw [HST.out, HNJ.out, ← Nat.add_assoc, ← HU.out (by omega)]⟩
          case measure => simp [intOf]; omega
        · have HG : Hid (u ≤ 120 → u = sizeLL (lll.take (i + 1))) := fun h9 => by
            have h8 : j = ni := by omega
            have := HU.out h9
            rw [h8, List.take_of_length_le (l := ll) (by rw [HNI.out]; exact Nat.le_refl _)] at this
            rw [HT.out, this, Nat.add_assoc]
            rfl
          by_cases hjn : j < ni
          · have hd1 : decide ((u : Int) ≤ 120) = false := decide_eq_false (by omega)
            have hd2 : ¬ (u : Int) ≤ 120 := by omega
            clear hgo
            go_wp2
            go_round
            case rel => exact ⟨i + 1, u, by omega, by go_num, rfl, hu, HG.out⟩
            case measure => simp [intOf]; omega
          · clear hgo
            go_wp2
            go_round
            case rel => exact ⟨i + 1, u, by omega, by go_num, rfl, hu, HG.out⟩
            case measure => simp [intOf]; omega
    · have HF : Hid (v ≤ 120 → sizeLL lll ≤ 120) := fun h9 => by
        have h8 := HE.out h9
        rw [List.take_of_length_le (by rw [hlen.out]; omega)] at h8
        omega
      go_wp2
      go_ret
      exact ⟨_, rfl, rfl, fun h9 => HF.out (by have := of_decide_eq_true h9; omega)⟩
end Go.Proofs.Ytonimfogmplgdaa
