/- The walks of the two comparisons, and of nat.Sub. -/
import Derived.Test.YtfggecdgnidhfaaDoorRefAdd
namespace Go.Proofs.YtfggecdgnidhfaaDoor
open Go.RowKit

/-- -1, 0 or 1. -/
def cmpV (x y : Nat) : Int := if x < y then -1 else if y < x then 1 else 0
theorem cmpV_lt {x y : Nat} (h : x < y) : cmpV x y = -1 := if_pos h
theorem cmpV_gt {x y : Nat} (h : y < x) : cmpV x y = 1 := by unfold cmpV; rw [if_neg (by omega), if_pos h]
theorem cmpV_eq {x y : Nat} (h : x = y) : cmpV x y = 0 := by unfold cmpV; rw [if_neg (by omega), if_neg (by omega)]

theorem lt_of_length {x y : Nat} (h : (limbs x).length < (limbs y).length) : x < y := by
  rcases Nat.lt_or_ge x y with h1 | h1
  · exact h1
  · have := length_limbs_mono h1; omega

theorem drop_cons {a b : List Nat} {k : Nat} (ha : k < a.length) (hb : k < b.length) (h : lim a k = lim b k) (hd : a.drop (k + 1) = b.drop (k + 1)) : a.drop k = b.drop k := by
  rw [List.drop_eq_getElem_cons ha, List.drop_eq_getElem_cons hb, hd]
  rw [lim_eq, lim_eq, List.getElem?_eq_getElem ha, List.getElem?_eq_getElem hb] at h
  simp at h
  rw [h]

set_option maxHeartbeats 1000000 in
theorem cmp_any (A : Option Addr) (n c : Nat) (l : List Nat) (A2 : Option Addr) (m d : Nat) (l2 : List Nat) (w : World) (h : Rd w A n c l) (h2 : Rd w A2 m d l2) :
    Calls Tryd.prog 30 #[.slice A n c, .slice A2 m d] w (Makes (.int .i64 (cmpV (val l) (val l2))) w) := by
  go_enter Tryd.func30, Tryd.ntmps30
  go_wp2_with fail
  refine (short_lim _ _ _ _ _ h).mono ?_
  rintro e w' ⟨p, rfl, hp, hpn, rfl⟩
  go_wp2_with fail
  refine (short_lim _ _ _ _ _ h2).mono ?_
  rintro e w' ⟨q, rfl, hq, hqn, rfl⟩
  have hpl := hp.len
  have hql := hq.len
  have hp63 := hp.le63
  have hq63 := hq.le63
  by_cases hne : p = q
  · subst hne
    have hva := val_limbs (val l)
    have hvb := val_limbs (val l2)
    have HVA := hide hva
    have HVB := hide hvb
    have HPL := hide hpl
    have HQL := hide hql
    clear hpl hql hva hvb
    generalize limbs (val l) = la at *
    generalize limbs (val l2) = lb at *
    go_wp2
    go_loopw [5] (fun i wr => ∃ k : Nat, k ≤ p ∧ i = .int .i64 ((k : Int) - 1) ∧ la.drop k = lb.drop k ∧ Below w'.heap.size w' wr) (fun i _ => (intOf i + 1).toNat)
    case atStart => exact ⟨p, Nat.le_refl _, rfl, by rw [List.drop_eq_nil_of_le (by rw [HPL.out]; exact Nat.le_refl _), List.drop_eq_nil_of_le (by rw [HQL.out]; exact Nat.le_refl _)], Below.refl _ _⟩
    case round =>
      obtain ⟨k, hk, rfl, hd, hS⟩ := hrel
      have HD := hide hd
      clear hd
      cases k with
      | zero =>
        have he : val l = val l2 := by
          have := HD.out
          rw [List.drop_zero, List.drop_zero] at this
          rw [← HVA.out, ← HVB.out, this]
        have HE := hide (cmpV_eq he)
        clear he
        go_wp2
        go_ret
        rw [HE.out]
        exact ⟨rfl, hS⟩
      | succ j =>
        obtain ⟨b, off, rfl, hb, hcell⟩ := (hp.below hS).at (k := j) (by omega)
        obtain ⟨b', off', rfl, hb', hcell'⟩ := (hq.below hS).at (k := j) (by omega)
        have hi : (j : Int) < (p : Int) := by omega
        rcases Nat.lt_trichotomy (lim la j) (lim lb j) with hlt | heq | hgt
        · have hv : val l < val l2 := by
            rw [← HVA.out, ← HVB.out]
            exact val_take_lt_of hp.lims (by rw [HPL.out, HQL.out]) (by rw [HPL.out]; omega) HD.out hlt
          have HE := hide (cmpV_lt hv)
          have ht : ((lim la j : Int) < (lim lb j : Int)) := by omega
          clear hv hlt
          go_wp2
          go_quiet (fail)
          go_wp2
          go_ret
          rw [HE.out]
          exact ⟨rfl, by first | exact below_drewN hS _ | exact below_drewN (below_drewN hS _) _⟩
        · have HD2 := hide (drop_cons (by rw [HPL.out]; omega) (by rw [HQL.out]; omega) heq HD.out)
          have ht : ¬ ((lim la j : Int) < (lim lb j : Int)) := by omega
          have ht2 : ¬ ((lim lb j : Int) < (lim la j : Int)) := by omega
          clear heq
          go_wp2
          go_quiet (fail)
          go_wp2
          go_quiet (fail)
          go_wp2
          go_roundw
          case rel => exact ⟨j, by omega, by go_num, HD2.out, below_drewN hS _⟩
          case measure => simp [intOf]
        · have hv : val l2 < val l := by
            rw [← HVA.out, ← HVB.out]
            exact val_take_lt_of hq.lims (by rw [HPL.out, HQL.out]) (by rw [HQL.out]; omega) HD.out.symm hgt
          have HE := hide (cmpV_gt hv)
          have ht : ¬ ((lim la j : Int) < (lim lb j : Int)) := by omega
          have ht2 : ((lim lb j : Int) < (lim la j : Int)) := by omega
          clear hv hgt
          go_wp2
          go_quiet (fail)
          go_wp2
          go_quiet (fail)
          go_wp2
          go_ret
          rw [HE.out]
          exact ⟨rfl, by first | exact below_drewN hS _ | exact below_drewN (below_drewN hS _) _⟩
  · have hn1 : ((p : Int) != (q : Int)) = true := by simp; omega
    rcases Nat.lt_or_ge p q with hlt | hge
    · have hv : val l < val l2 := lt_of_length (by omega)
      have HE := hide (cmpV_lt hv)
      have ht : (p : Int) < (q : Int) := by omega
      clear hv hpl hql
      go_wp2
      go_ret
      rw [HE.out]
      exact ⟨rfl, Below.refl _ _⟩
    · have hv : val l2 < val l := lt_of_length (by omega)
      have HE := hide (cmpV_gt hv)
      have ht : ¬ (p : Int) < (q : Int) := by omega
      clear hv hpl hql
      go_wp2
      go_ret
      rw [HE.out]
      exact ⟨rfl, Below.refl _ _⟩

theorem val_top_lt {a b : List Nat} (ha : Lims a) {k : Nat} (hd : ∀ t, k < t → lim a t = lim b t) (h : lim a k < lim b k) : val a < val b := by
  have key : ∀ (q p : Nat), q + k + 1 = p → val (a.take p) < val (b.take p) := by
    intro q
    induction q with
    | zero =>
      intro p hp
      obtain rfl : p = k + 1 := by omega
      rw [val_take_succ' a k, val_take_succ' b k]
      have h5 := val_lt_pow_of_take ha k
      have h6 : 4294967296 ^ k * (lim a k + 1) ≤ 4294967296 ^ k * lim b k := Nat.mul_le_mul_left _ h
      rw [Nat.mul_add] at h6
      omega
    | succ q ih =>
      intro p hp
      obtain rfl : p = (q + k + 1) + 1 := by omega
      rw [val_take_succ' a (q + k + 1), val_take_succ' b (q + k + 1), hd (q + k + 1) (by omega)]
      have := ih (q + k + 1) rfl
      omega
  have := key (a.length + b.length) (a.length + b.length + k + 1) rfl
  rwa [val_take_all (by omega), val_take_all (by omega)] at this
theorem val_eq_of_lims {a b : List Nat} (h : ∀ t, lim a t = lim b t) : val a = val b := by
  have key : ∀ p, val (a.take p) = val (b.take p) := by
    intro p
    induction p with
    | zero => rfl
    | succ p ih => rw [val_take_succ', val_take_succ', ih, h p]
  have := key (a.length + b.length)
  rwa [val_take_all (by omega), val_take_all (by omega)] at this

set_option maxHeartbeats 1000000 in
theorem rcmp_any (A : Option Addr) (n c : Nat) (l : List Nat) (A2 : Option Addr) (m d : Nat) (l2 : List Nat) (w : World) (h : Rd w A n c l) (h2 : Rd w A2 m d l2) :
    Calls Tryd.prog 61 #[.slice A n c, .slice A2 m d] w (Gives (.int .i64 (cmpV (val l) (val l2))) w) := by
  have hn63 := h.le63
  have hm63 := h2.le63
  go_enter Tryd.func61, Tryd.ntmps61
  go_wp2
  go_loop [5] (fun i => ∃ k : Nat, k ≤ max n m ∧ i = .int .i64 ((k : Int) - 1) ∧ ∀ t, k ≤ t → lim l t = lim l2 t) (fun i => (intOf i + 1).toNat)
  case atStart => exact ⟨max n m, Nat.le_refl _, by go_num, fun t ht => by rw [getD_ge _ _ (by rw [h.len]; omega), getD_ge _ _ (by rw [h2.len]; omega)]⟩
  case round =>
    obtain ⟨k, hk, rfl, hd⟩ := hrel
    have HD := hide hd
    clear hd
    cases k with
    | zero =>
      have HE := hide (cmpV_eq (val_eq_of_lims fun t => HD.out t (Nat.zero_le _)))
      go_wp2
      go_ret
      rw [HE.out]
      exact ⟨rfl, rfl⟩
    | succ j =>
      have hx := h.lims.getD j
      have hy := h2.lims.getD j
      rcases Nat.lt_trichotomy (lim l j) (lim l2 j) with hlt | heq | hgt
      · have HE := hide (cmpV_lt (val_top_lt h.lims (fun t ht => HD.out t ht) hlt))
        have ht : ((lim l j : Int) < (lim l2 j : Int)) := by omega
        clear hlt
        go_wp2_with fail
        refine (limb_any A n c l j _ h).mono ?_
        rintro e w' ⟨rfl, rfl⟩
        go_wp2_with fail
        refine (limb_any A2 m d l2 j _ h2).mono ?_
        rintro e w' ⟨rfl, rfl⟩
        go_wp2
        go_ret
        rw [HE.out]
        exact ⟨rfl, rfl⟩
      · have HD2 : Hid (∀ t, j ≤ t → lim l t = lim l2 t) := fun t ht => by
          rcases Nat.lt_or_ge j t with h9 | h9
          · exact HD.out t h9
          · obtain rfl : t = j := by omega
            exact heq
        have ht : ¬ ((lim l j : Int) < (lim l2 j : Int)) := by omega
        have ht2 : ¬ ((lim l2 j : Int) < (lim l j : Int)) := by omega
        clear heq
        go_wp2_with fail
        refine (limb_any A n c l j _ h).mono ?_
        rintro e w' ⟨rfl, rfl⟩
        go_wp2_with fail
        refine (limb_any A2 m d l2 j _ h2).mono ?_
        rintro e w' ⟨rfl, rfl⟩
        go_wp2_with fail
        refine (limb_any A n c l j _ h).mono ?_
        rintro e w' ⟨rfl, rfl⟩
        go_wp2_with fail
        refine (limb_any A2 m d l2 j _ h2).mono ?_
        rintro e w' ⟨rfl, rfl⟩
        go_wp2
        go_round
        case rel => exact ⟨j, by omega, by go_num, HD2.out⟩
        case measure => simp [intOf]
      · have HE := hide (cmpV_gt (val_top_lt h2.lims (fun t ht => (HD.out t ht).symm) hgt))
        have ht : ¬ ((lim l j : Int) < (lim l2 j : Int)) := by omega
        have ht2 : ((lim l2 j : Int) < (lim l j : Int)) := by omega
        clear hgt
        go_wp2_with fail
        refine (limb_any A n c l j _ h).mono ?_
        rintro e w' ⟨rfl, rfl⟩
        go_wp2_with fail
        refine (limb_any A2 m d l2 j _ h2).mono ?_
        rintro e w' ⟨rfl, rfl⟩
        go_wp2_with fail
        refine (limb_any A n c l j _ h).mono ?_
        rintro e w' ⟨rfl, rfl⟩
        go_wp2_with fail
        refine (limb_any A2 m d l2 j _ h2).mono ?_
        rintro e w' ⟨rfl, rfl⟩
        go_wp2
        go_ret
        rw [HE.out]
        exact ⟨rfl, rfl⟩
end Go.Proofs.YtfggecdgnidhfaaDoor
