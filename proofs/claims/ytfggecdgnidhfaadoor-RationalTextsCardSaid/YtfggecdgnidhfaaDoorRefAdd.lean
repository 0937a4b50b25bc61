/- The walk of the reference's Mul. The walks of the reference's Add and Sub. -/
import Derived.Test.YtfggecdgnidhfaaDoorAddMul
import Derived.Test.YtfggecdgnidhfaaDoorSame
namespace Go.Proofs.YtfggecdgnidhfaaDoor
open Go.RowKit

theorem own_one (w : World) (e : TypeId) {x : Nat} {z : Int} (hz : z = (x : Int)) (hx : x < 4294967296) :
    Own (w.alloc (.cells #[Value.int .u32 z] e)) w.heap.size e (some ⟨w.heap.size, 0, none⟩) 1 1 [x] := by
  subst hz
  exact Own.lit w (base := w.heap.size) e [x] 1 rfl (Nat.le_refl _) (by decide) (Lims.cons hx Lims.nil)

theorem val_snoc (o : List Nat) (x : Nat) {k : Nat} (h : o.length = k) : val (o ++ [x]) = val o + 4294967296 ^ k * x := by
  rw [val_append, h, val_cons, val_nil]; simp

/-- The sum as a list that grows. -/
def SumL (a b o : List Nat) (k c : Nat) : Prop := val o + 4294967296 ^ k * c = val (a.take k) + val (b.take k)
theorem sumL_step {a b o : List Nat} {k c s : Nat} (h : SumL a b o k c) (ho : o.length = k) (hs : s = lim a k + lim b k + c) :
    SumL a b (o ++ [s % 4294967296]) (k + 1) (s / 4294967296) := by
  unfold SumL at h ⊢
  rw [val_snoc _ _ ho, val_take_succ' a k, val_take_succ' b k, Nat.pow_succ]
  have := carry_step (P := 4294967296 ^ k) h hs
  rw [this, Nat.mul_add]
  omega
theorem sumL_end {a b o : List Nat} {k : Nat} (h : SumL a b o k 0) (ha : a.length ≤ k) (hb : b.length ≤ k) : val o = val a + val b := by
  unfold SumL at h
  rw [val_take_all ha, val_take_all hb] at h
  omega

set_option maxHeartbeats 1000000 in
set_option maxRecDepth 10000 in
theorem radd_any (A : Option Addr) (n c : Nat) (l : List Nat) (A2 : Option Addr) (m d : Nat) (l2 : List Nat) (w : World) (h : Rd w A n c l) (h2 : Rd w A2 m d l2) (hn : n ≤ 1073741822) (hm : m ≤ 1073741822) :
    Calls Tryd.prog 63 #[.slice A n c, .slice A2 m d] w (RetNat (val l + val l2) w) := by
  obtain ⟨i0, hi, hz0, hz1, hz2⟩ := info_parts Tryd.infoU32
  go_enter Tryd.func63, Tryd.ntmps63
  go_wp2
  go_loopw [5, 6, 7] (fun v cc i wr => ∃ (k c1 : Nat) (A1 : Option Addr) (d1 : Nat) (o : List Nat), k ≤ max n m + 1 ∧ (k = max n m + 1 → c1 = 0) ∧ c1 ≤ 1 ∧ i = .int .i64 (k : Int) ∧ cc = .int .u64 (c1 : Int) ∧ v = .slice A1 k d1 ∧ Own wr w.heap.size 40 A1 k d1 o ∧ SumL l l2 o k c1 ∧ Below w.heap.size w wr) (fun _ _ i _ => max n m + 2 - (intOf i).toNat)
  case atStart => exact ⟨0, 0, none, 0, [], by omega, fun _ => rfl, by omega, rfl, rfl, rfl, Own.nil _ _ _, by simp [SumL, val_nil], Below.refl _ _⟩
  case round =>
    obtain ⟨k, c1, A1, d1, o, hk, hk2, hc1, rfl, rfl, rfl, hown, hsum, hS⟩ := hrel
    have HS := hide hsum
    have HK := hide hk2
    clear hsum hk2
    have hr1 := h.below hS
    have hr2 := h2.below hS
    have hxl := h.lims.getD k
    have hyl := h2.lims.getD k
    by_cases hgo : k < n ∨ k < m ∨ 0 < c1
    · have hst := sumL_step (s := lim l k + lim l2 k + c1) HS.out hown.len rfl
      have hs1 := own_one wr 40 (x := (lim l k + lim l2 k + c1) % 4294967296) (z := ((lim l k : Int) + (lim l2 k : Int) + (c1 : Int)) % 4294967296) (by simp) (Nat.mod_lt _ (by omega))
      have hsrc := hs1.rd
      have hba := below_alloc wr (.cells #[Value.int .u32 (((lim l k : Int) + (lim l2 k : Int) + (c1 : Int)) % 4294967296)] 40)
      have hdst := hown.below hba
      have hsz : w.heap.size ≤ wr.heap.size + 1 := by have := hS.size; omega
      have HST := hide hst
      have HD := hide hdst
      have hkb : k + 1 ≤ 1073741824 := by omega
      have hS2 := below_step hba hS
      clear hst hs1 hdst hba
      have hk3 : k ≤ max n m := by
        rcases Nat.lt_or_ge k (max n m + 1) with h9 | h9
        · omega
        · have := HK.out (by omega)
          omega
      rcases (show (k : Int) < n ∨ (¬ (k : Int) < n ∧ (k : Int) < m) ∨ (¬ (k : Int) < n ∧ ¬ (k : Int) < m ∧ 0 < (c1 : Int)) by omega) with hg | ⟨hg1, hg⟩ | ⟨hg1, hg2, hg⟩
      all_goals
        go_wp2_with fail
        refine (limb_any A n c l k _ hr1).mono ?_
        rintro e w' ⟨rfl, rfl⟩
        go_wp2_with fail
        refine (limb_any A2 m d l2 k _ hr2).mono ?_
        rintro e w' ⟨rfl, rfl⟩
        go_wp2_with (at_builtin; refine wpList_append_rd _ rfl _ _ _ 40 rfl i0 Tryd.underlying23 hi hz0 hz1 hz2 w.heap.size _ k d1 o rfl HD.out _ 1 1 _ rfl hsrc hkb (by simp; exact hsz) ?_; intro A' c' w1 hown1 hb1)
        go_roundw
        case rel => exact ⟨k + 1, _, A', c', _, by omega, fun h9 => by (have e1 : lim l k = 0 := getD_ge _ _ (by rw [h.len]; omega)); (have e2 : lim l2 k = 0 := getD_ge _ _ (by rw [h2.len]; omega)); omega, by omega, by go_num, by go_num, rfl, hown1, HST.out, hS2.trans hb1⟩
        case measure => simp [intOf]; omega
    · obtain rfl : c1 = 0 := by omega
      have hend := sumL_end HS.out (by rw [h.len]; omega) (by rw [h2.len]; omega)
      have HE := hide hend
      have g1 : ¬ (k : Int) < n := by omega
      have g2 : ¬ (k : Int) < m := by omega
      have hkb : k ≤ 1073741824 := by omega
      clear hend hgo
      have hrd := hown.rd
      go_wp2_with fail
      refine (rtrim_any _ _ _ _ _ hrd hkb).mono ?_
      rintro e w2 ⟨A3, n3, c3, rfl, h3, hb3⟩
      rw [HE.out] at h3
      go_wp2
      go_ret
      exact ⟨A3, n3, c3, rfl, h3, below_step hb3 hS⟩

theorem val_take_of_lt {b : List Nat} {k : Nat} (h : val b < 4294967296 ^ k) : val (b.take k) = val b := by
  by_cases hk : b.length ≤ k
  · exact val_take_all hk
  · have h1 := val_take_drop b k (by omega)
    rcases Nat.eq_zero_or_pos (val (b.drop k)) with h2 | h2
    · rw [h2] at h1; simpa using h1.symm
    · have : 4294967296 ^ k * 1 ≤ 4294967296 ^ k * val (b.drop k) := Nat.mul_le_mul_left _ h2
      omega

/-- The difference as a list that grows. -/
def DiffL (a b o : List Nat) (k c : Nat) : Prop := val o + val (b.take k) = val (a.take k) + 4294967296 ^ k * c
theorem diffL_step {a b o : List Nat} {k c x c' : Nat} (h : DiffL a b o k c) (ho : o.length = k) (hs : x + lim b k + c = lim a k + 4294967296 * c') :
    DiffL a b (o ++ [x]) (k + 1) c' := by
  unfold DiffL at h ⊢
  rw [val_snoc _ _ ho, val_take_succ' a k, val_take_succ' b k, Nat.pow_succ]
  have e : 4294967296 ^ k * (x + lim b k + c) = 4294967296 ^ k * (lim a k + 4294967296 * c') := by rw [hs]
  rw [Nat.mul_add, Nat.mul_add, Nat.mul_add, ← Nat.mul_assoc] at e
  omega
theorem diffL_end {a b o : List Nat} {k c : Nat} (h : DiffL a b o k c) (ha : a.length = k) (la : Lims a) (ho : o.length = k) (hl : Lims o) (hle : val b ≤ val a) :
    val o = val a - val b := by
  unfold DiffL at h
  have h0 := val_lt la
  rw [ha] at h0
  rw [val_take_of_lt (by omega), val_take_all (l := a) (by omega)] at h
  have h1 := val_lt hl
  rw [ho] at h1
  have : c = 0 := by
    rcases Nat.eq_zero_or_pos c with h2 | h2
    · exact h2
    · have : 4294967296 ^ k * 1 ≤ 4294967296 ^ k * c := Nat.mul_le_mul_left _ h2
      omega
  subst this
  omega

set_option maxHeartbeats 1000000 in
set_option maxRecDepth 10000 in
theorem rsub_any (A : Option Addr) (n c : Nat) (l : List Nat) (A2 : Option Addr) (m d : Nat) (l2 : List Nat) (w : World) (h : Rd w A n c l) (h2 : Rd w A2 m d l2) (hn : n ≤ 1073741822) (hle : val l2 ≤ val l) :
    Calls Tryd.prog 62 #[.slice A n c, .slice A2 m d] w (RetNat (val l - val l2) w) := by
  obtain ⟨i0, hi, hz0, hz1, hz2⟩ := info_parts Tryd.infoU32
  have HLE := hide hle
  clear hle
  go_enter Tryd.func62, Tryd.ntmps62
  go_wp2
  go_loopw [5, 6, 7] (fun v cc i wr => ∃ (k c1 : Nat) (A1 : Option Addr) (d1 : Nat) (o : List Nat), k ≤ n ∧ c1 ≤ 1 ∧ i = .int .i64 (k : Int) ∧ cc = .int .u64 (c1 : Int) ∧ v = .slice A1 k d1 ∧ Own wr w.heap.size 40 A1 k d1 o ∧ DiffL l l2 o k c1 ∧ Below w.heap.size w wr) (fun _ _ i _ => n - (intOf i).toNat)
  case atStart => exact ⟨0, 0, none, 0, [], by omega, by omega, rfl, rfl, rfl, Own.nil _ _ _, by simp [DiffL, val_nil], Below.refl _ _⟩
  case round =>
    obtain ⟨k, c1, A1, d1, o, hk, hc1, rfl, rfl, rfl, hown, hsum, hS⟩ := hrel
    have HS := hide hsum
    clear hsum
    have hr1 := h.below hS
    have hr2 := h2.below hS
    have hxl := h.lims.getD k
    have hyl := h2.lims.getD k
    by_cases hlt : k < n
    · have hst := diffL_step (x := (lim l k + 4294967296 - lim l2 k - c1) % 4294967296) (c' := 1 - (lim l k + 4294967296 - lim l2 k - c1) / 4294967296) HS.out hown.len (by omega)
      have hs1 := own_one wr 40 (x := (lim l k + 4294967296 - lim l2 k - c1) % 4294967296) (z := ((lim l k : Int) + 4294967296 - (lim l2 k : Int) - (c1 : Int)) % 4294967296) (by omega) (Nat.mod_lt _ (by omega))
      have hsrc := hs1.rd
      have hba := below_alloc wr (.cells #[Value.int .u32 (((lim l k : Int) + 4294967296 - (lim l2 k : Int) - (c1 : Int)) % 4294967296)] 40)
      have hdst := hown.below hba
      have hsz : w.heap.size ≤ wr.heap.size + 1 := by have := hS.size; omega
      have HST := hide hst
      have HD := hide hdst
      have hkb : k + 1 ≤ 1073741824 := by omega
      have hS2 := below_step hba hS
      clear hst hs1 hdst hba
      go_wp2_with fail
      refine (limb_any A n c l k _ hr1).mono ?_
      rintro e w' ⟨rfl, rfl⟩
      go_wp2_with fail
      refine (limb_any A2 m d l2 k _ hr2).mono ?_
      rintro e w' ⟨rfl, rfl⟩
      go_wp2_with (at_builtin; refine wpList_append_rd _ rfl _ _ _ 40 rfl i0 Tryd.underlying23 hi hz0 hz1 hz2 w.heap.size _ k d1 o rfl HD.out _ 1 1 _ rfl hsrc hkb (by simp; exact hsz) ?_; intro A' c' w1 hown1 hb1)
      go_roundw
      case rel => exact ⟨k + 1, _, A', c', _, by omega, by omega, by go_num, congrArg (Value.int IntKind.u64) (by omega), rfl, hown1, HST.out, hS2.trans hb1⟩
      case measure => simp [intOf]; omega
    · obtain rfl : k = n := by omega
      have hend := diffL_end HS.out h.len h.lims hown.len hown.lims HLE.out
      have HE := hide hend
      have hkb : k ≤ 1073741824 := by omega
      clear hend hlt
      have hrd := hown.rd
      go_wp2_with fail
      refine (rtrim_any _ _ _ _ _ hrd hkb).mono ?_
      rintro e w2 ⟨A3, n3, c3, rfl, h3, hb3⟩
      rw [HE.out] at h3
      go_wp2
      go_ret
      exact ⟨A3, n3, c3, rfl, h3, below_step hb3 hS⟩
end Go.Proofs.YtfggecdgnidhfaaDoor
