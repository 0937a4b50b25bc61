/- The walks of Trim, Of, Bits, Int, of the program and of the reference, of the comparison of lists, and of the look at lengths. -/
import Derived.Test.YtlomanhmpbapeaaShort
import Derived.Test.YtlomanhmpbapeaaLen
import Derived.BigQuiet
import Derived.Deep.QuietTactic
namespace Go.Proofs.Ytlomanhmpbapeaa
open Go.RowKit

theorem Try.infoU32 : (Try.prog.info? 30).map (fun i => (i.zero, i.size, i.bytes)) = some (some (.int .u32 0), 1, 4) := by kernel_rfl

set_option maxHeartbeats 400000 in
theorem trim_own (A : Option Addr) (n c : Nat) (l : List Nat) (w : World) (h : Rd w A n c l) (hn : n ≤ 1073741824) :
    Calls Try.prog 89 #[.slice A n c] w (RetOwn 30 (val l) w) := by
  obtain ⟨i0, hi, hz0, hz1, hz2⟩ := info_parts Try.infoU32
  have hk := keep_le l n
  have hcut := h.cut hk
  have e1 : l.take (keep l n) = limbs (val l) := by rw [← h.len]; exact take_keep h.lims
  rw [e1] at hcut
  have HE := hide e1
  clear e1
  go_enter Try.func89, Try.ntmps89
  go_wp2_with (first
    | (go_at_call 80; refine (short_any A n c l _ h).mono ?_; rintro e w' ⟨rfl, rfl⟩)
    | (at_builtin; refine wpList_append_rd _ rfl _ _ _ 30 rfl i0 Try.underlying23 hi hz0 hz1 hz2 _ none 0 0 [] rfl (Own.nil _ _ _) A (keep l n) (keep l n) _ rfl hcut (by omega) (Nat.le_refl _) ?_; intro A' c' w1 hown hb))
  go_ret
  exact ⟨A', _, c', rfl, by simpa using hown, hb⟩

theorem trim_any (A : Option Addr) (n c : Nat) (l : List Nat) (w : World) (h : Rd w A n c l) (hn : n ≤ 1073741824) :
    Calls Try.prog 89 #[.slice A n c] w (RetNat (val l) w) := (trim_own A n c l w h hn).mono fun _ _ h => h.nat

set_option maxHeartbeats 400000 in
theorem rtrim_own (A : Option Addr) (n c : Nat) (l : List Nat) (w : World) (h : Rd w A n c l) (hn : n ≤ 1073741824) :
    Calls Try.prog 83 #[.slice A n c] w (RetOwn 30 (val l) w) := by
  obtain ⟨i0, hi, hz0, hz1, hz2⟩ := info_parts Try.infoU32
  have h63 := h.le63
  have hcap := h.cap
  have e1 : l.take (keep l n) = limbs (val l) := by rw [← h.len]; exact take_keep h.lims
  have HE := hide e1
  clear e1
  go_enter Try.func83, Try.ntmps83
  go_wp2
  go_loop [3] (fun v => ∃ k : Nat, k ≤ n ∧ v = .int .i64 k ∧ keep l k = keep l n) (fun v => (intOf v).toNat)
  case atStart => exact ⟨n, Nat.le_refl _, rfl, rfl⟩
  case round =>
    obtain ⟨k, hk, rfl, hkeep⟩ := hrel
    have HK := hide hkeep
    clear hkeep
    have hsrc := (h.head (m := keep l n) (keep_le l n)).below (below_alloc w (Obj.cells #[] 30))
    rw [HE.out] at hsrc
    have hdst := Own.lit0 w (base := w.heap.size) 30 (Nat.le_refl _)
    have hba := below_alloc w (Obj.cells #[] 30)
    have hkn := keep_le l n
    cases k with
    | zero =>
      have HK2 : Hid (keep l n = 0) := by rw [← HK.out]; rfl
      rw [HK2.out] at hsrc
      clear hkn
      go_wp2_with (at_builtin; refine wpList_append_rd _ rfl _ _ _ 30 rfl i0 Try.underlying23 hi hz0 hz1 hz2 w.heap.size _ 0 0 [] rfl hdst A 0 c _ rfl hsrc (by omega) (by simp) ?_; intro A' c' w1 hown hb)
      go_ret
      exact ⟨A', _, c', rfl, by simpa using hown, hba.trans hb⟩
    | succ j =>
      obtain ⟨b, off, rfl, hb, hcell⟩ := h.at (k := j) (by omega)
      by_cases h0 : lim l j = 0
      · rw [h0] at hcell
        have HK2 : Hid (keep l j = keep l n) := by rw [← HK.out]; simp [keep, h0, Hid]
        have H0 := hide h0
        clear h0 hsrc hdst hba
        go_wp2
        go_round
        case rel => exact ⟨j, by omega, rfl, HK2.out⟩
        case measure => simp [intOf]
      · have hne : ((lim l j : Int) == 0) = false := by simp; omega
        have HK2 : Hid (keep l n = j + 1) := by rw [← HK.out]; simp [keep, h0, Hid]
        rw [HK2.out] at hsrc
        clear hkn
        go_wp2_with (at_builtin; refine wpList_append_rd _ rfl _ _ _ 30 rfl i0 Try.underlying23 hi hz0 hz1 hz2 w.heap.size _ 0 0 [] rfl hdst _ (j + 1) c _ rfl hsrc (by omega) (by simp) ?_; intro A' c' w1 hown hb)
        go_ret
        exact ⟨A', _, c', rfl, by simpa using hown, hba.trans hb⟩

theorem rtrim_any (A : Option Addr) (n c : Nat) (l : List Nat) (w : World) (h : Rd w A n c l) (hn : n ≤ 1073741824) :
    Calls Try.prog 83 #[.slice A n c] w (RetNat (val l) w) := (rtrim_own A n c l w h hn).mono fun _ _ h => h.nat
end Go.Proofs.Ytlomanhmpbapeaa
