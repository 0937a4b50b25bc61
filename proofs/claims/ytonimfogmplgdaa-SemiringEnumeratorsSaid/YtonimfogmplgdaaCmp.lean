/- The walks of the two comparisons, and of nat.Sub. -/
import Derived.Test.YtonimfogmplgdaaRefAdd
namespace Go.Proofs.Ytonimfogmplgdaa
open Go.RowKit

/-- -1, 0 or 1. -/
def cmpV (x y : Nat) : Int := if x < y then -1 else if y < x then 1 else 0
theorem cmpV_lt {x y : Nat} (h : x < y) : cmpV x y = -1 := if_pos h
theorem cmpV_gt {x y : Nat} (h : y < x) : cmpV x y = 1 := by unfold cmpV; rw [if_neg (by omega), if_pos h]
theorem cmpV_eq {x y : Nat} (h : x = y) : cmpV x y = 0 := by unfold cmpV; rw [if_neg (by omega), if_neg (by omega)]

theorem lt_of_length {x y : Nat} (h : (limbs x).length < (limbs y).length) : x < y := by
  rcases Nat.lt_or_ge x y with h1 | h1
  · exact h1
  · have := length_limbs_mono h1; omega

theorem drop_cons {a b : List Nat} {k : Nat} (ha : k < a.length) (hb : k < b.length) (h : lim a k = lim b k) (hd : a.drop (k + 1) = b.drop (k + 1)) : a.drop k = b.drop k := by
  rw [List.drop_eq_getElem_cons ha, List.drop_eq_getElem_cons hb, hd]
  rw [lim_eq, lim_eq, List.getElem?_eq_getElem ha, List.getElem?_eq_getElem hb] at h
  simp at h
  rw [h]

theorem val_top_lt {a b : List Nat} (ha : Lims a) {k : Nat} (hd : ∀ t, k < t → lim a t = lim b t) (h : lim a k < lim b k) : val a < val b := by
  have key : ∀ (q p : Nat), q + k + 1 = p → val (a.take p) < val (b.take p) := by
    intro q
    induction q with
    | zero =>
      intro p hp
      obtain rfl : p = k + 1 := by omega
      rw [val_take_succ' a k, val_take_succ' b k]
      have h5 := val_lt_pow_of_take ha k
      have h6 : 4294967296 ^ k * (lim a k + 1) ≤ 4294967296 ^ k * lim b k := Nat.mul_le_mul_left _ h
      rw [Nat.mul_add] at h6
      omega
    | succ q ih =>
      intro p hp
      obtain rfl : p = (q + k + 1) + 1 := by omega
      rw [val_take_succ' a (q + k + 1), val_take_succ' b (q + k + 1), hd (q + k + 1) (by omega)]
      have := ih (q + k + 1) rfl
      omega
  have := key (a.length + b.length) (a.length + b.length + k + 1) rfl
  rwa [val_take_all (by omega), val_take_all (by omega)] at this
theorem val_eq_of_lims {a b : List Nat} (h : ∀ t, lim a t = lim b t) : val a = val b := by
  have key : ∀ p, val (a.take p) = val (b.take p) := by
    intro p
    induction p with
    | zero => rfl
    | succ p ih => rw [val_take_succ', val_take_succ', ih, h p]
  have := key (a.length + b.length)
  rwa [val_take_all (by omega), val_take_all (by omega)] at this

end Go.Proofs.Ytonimfogmplgdaa
