/- The walks of Of, Bits, Int, of the program and of the reference, of the comparison of lists, and of the look at lengths. -/
import Derived.Test.YtlomanhmpbapeaaForms
namespace Go.Proofs.Ytlomanhmpbapeaa
open Go.RowKit

theorem val_two (n : Nat) : val [n % 4294967296, n / 4294967296] = n := by
  simp only [val_cons, val_nil]; omega
theorem lims_two {n : Nat} (h : n < 18446744073709551616) : Lims [n % 4294967296, n / 4294967296] :=
  Lims.cons (by omega) (Lims.cons (by omega) Lims.nil)
theorem u32s_two (n : Nat) : (u32s [n % 4294967296, n / 4294967296]).toArray = #[Value.int .u32 ((n : Int) % 4294967296), Value.int .u32 ((n : Int) / 4294967296)] := by
  simp [u32s]
theorem own_two (w : World) (e : TypeId) {n : Nat} (h : n < 18446744073709551616) :
    Own (w.alloc (.cells #[Value.int .u32 ((n : Int) % 4294967296), Value.int .u32 ((n : Int) / 4294967296)] e)) w.heap.size e (some ⟨w.heap.size, 0, none⟩) 2 2 [n % 4294967296, n / 4294967296] := by
  rw [← u32s_two]
  exact Own.lit w (base := w.heap.size) e _ 2 rfl (Nat.le_refl _) (by decide) (lims_two h)

theorem RetOwn.later {e : TypeId} {N : Nat} {w w1 : World} {x : Ending} {w' : World} (h : RetOwn e N w1 x w') (hb : Below w.heap.size w w1) : RetOwn e N w x w' := by
  obtain ⟨A, n, c, hx, ho, hb'⟩ := h
  exact ⟨A, n, c, hx, ho.mono hb.size, below_step hb' hb⟩
theorem RetNat.later {N : Nat} {w w1 : World} {x : Ending} {w' : World} (h : RetNat N w1 x w') (hb : Below w.heap.size w w1) : RetNat N w x w' := by
  obtain ⟨A, n, c, hx, ho, hb'⟩ := h
  exact ⟨A, n, c, hx, ho, below_step hb' hb⟩

set_option maxHeartbeats 400000 in
theorem of_own (x : Nat) (w : World) (hx : x < 18446744073709551616) :
    Calls Try.prog 86 #[.int .u64 (x : Int)] w (RetOwn 30 x w) := by
  have ho := (own_two w 30 hx).rd
  have hb := below_alloc w (.cells #[Value.int .u32 ((x : Int) % 4294967296), Value.int .u32 ((x : Int) / 4294967296)] 30)
  have HV := hide (val_two x)
  go_enter Try.func86, Try.ntmps86
  go_wp2_with fail
  refine (trim_own _ 2 2 _ _ ho (by omega)).mono ?_
  rintro e w1 ⟨A, n, c, rfl, h1, h2⟩
  rw [HV.out] at h1
  go_wp2
  go_ret
  exact RetOwn.later ⟨A, n, c, rfl, h1, h2⟩ hb
theorem of_any (x : Nat) (w : World) (hx : x < 18446744073709551616) :
    Calls Try.prog 86 #[.int .u64 (x : Int)] w (RetNat x w) := (of_own x w hx).mono fun _ _ h => h.nat

set_option maxHeartbeats 400000 in
theorem rof_own (x : Nat) (w : World) (hx : x < 18446744073709551616) :
    Calls Try.prog 87 #[.int .u64 (x : Int)] w (RetOwn 30 x w) := by
  have ho := (own_two w 30 hx).rd
  have hb := below_alloc w (.cells #[Value.int .u32 ((x : Int) % 4294967296), Value.int .u32 ((x : Int) / 4294967296)] 30)
  have HV := hide (val_two x)
  go_enter Try.func87, Try.ntmps87
  go_wp2_with fail
  refine (rtrim_own _ 2 2 _ _ ho (by omega)).mono ?_
  rintro e w1 ⟨A, n, c, rfl, h1, h2⟩
  rw [HV.out] at h1
  go_wp2
  go_ret
  exact RetOwn.later ⟨A, n, c, rfl, h1, h2⟩ hb
theorem rof_any (x : Nat) (w : World) (hx : x < 18446744073709551616) :
    Calls Try.prog 87 #[.int .u64 (x : Int)] w (RetNat x w) := (rof_own x w hx).mono fun _ _ h => h.nat

/-- A call that returns v and leaves the world as it is. -/
def Gives (v : Value) (w : World) (x : Ending) (w' : World) : Prop := x = .returned v ∧ w' = w

set_option maxHeartbeats 400000 in
theorem bits_any (A : Option Addr) (n c : Nat) (l : List Nat) (w : World) (h : Rd w A n c l) (hn : n ≤ 1073741824) :
    Calls Try.prog 56 #[.slice A n c] w (Gives (.int .i64 (nbits (val l) : Nat)) w) := by
  have hk := keep_le l n
  have hcut := h.cut hk
  have e1 : l.take (keep l n) = limbs (val l) := by rw [← h.len]; exact take_keep h.lims
  have hv : val (l.take (keep l n)) = val l := by rw [e1, val_limbs]
  by_cases hz : keep l n = 0
  · have e2 : val l = 0 := by rw [← hv, hz]; rfl
    have H2 := hide e2
    have HZ := hide hz
    clear e1 hv e2 hz
    go_enter Try.func56, Try.ntmps56
    go_wp2_with fail
    refine (short_any A n c l _ h).mono ?_
    rintro e w' ⟨rfl, rfl⟩
    rw [HZ.out]
    go_wp2
    go_ret
    rw [H2.out]
    exact ⟨rfl, rfl⟩
  · obtain ⟨m, hm⟩ : ∃ m, keep l n = m + 1 := ⟨keep l n - 1, by omega⟩
    rw [hm] at hcut hv
    have hcell := hcut.at (k := m) (by omega)
    obtain ⟨b, off, rfl, hb, hcell⟩ := hcell
    have hlen := hcut.len
    have hlims := hcut.lims
    have hc0 := canon_take_keep l n (by rw [h.len]; exact Nat.le_refl n)
    rw [hm] at hc0
    have htop : lim (l.take (m + 1)) m ≠ 0 := by
      have hne : l.take (m + 1) ≠ [] := by intro h0; rw [h0] at hlen; simp at hlen
      have := hc0 hne
      rw [List.getLast_eq_getElem] at this
      rw [lim_eq, List.getElem?_eq_getElem (by omega)]
      simpa [hlen] using this
    have hx : lim (l.take (m + 1)) m < 4294967296 := hlims.getD m
    have ht := nbits_top hlims hlen htop
    have hnb : nbits (lim (l.take (m + 1)) m) ≤ 32 := nbits_le (by omega)
    have hmn : m + 1 ≤ n := by omega
    rw [hv] at ht
    have HT := hide ht
    have HM := hide hm
    clear e1 hv hz hm ht hlen hc0 htop hk hlims
    generalize lim (l.take (m + 1)) m = top at *
    go_enter Try.func56, Try.ntmps56
    go_wp2_with fail
    refine (short_any _ n c l _ h).mono ?_
    rintro e w' ⟨rfl, rfl⟩
    rw [HM.out]
    go_wp2_with (go_at_call 81; refine (len32_any top _ hx).mono ?_; rintro e w' ⟨rfl, rfl⟩)
    go_ret
    rw [HT.out]
    exact ⟨by simp, rfl⟩
end Go.Proofs.Ytlomanhmpbapeaa
