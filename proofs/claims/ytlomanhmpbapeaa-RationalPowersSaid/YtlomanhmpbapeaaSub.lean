/- The walk of nat.Sub. -/
import Derived.Test.YtlomanhmpbapeaaCmp
namespace Go.Proofs.Ytlomanhmpbapeaa
open Go.RowKit

theorem wrap_u64' (n : Int) : IntKind.u64.wrap n = n % 18446744073709551616 := by simp [IntKind.wrap, IntKind.bits, IntKind.signed]

/-- nat.Sub's two results. -/
def RetSub (x y : Nat) (w : World) (e : Ending) (w' : World) : Prop :=
  ∃ A n c, e = .returned (.tuple #[.slice A n c, .int .i64 (if x < y then 6 else 0)]) ∧ Rd w' A n c (limbs (x - y)) ∧ Below w.heap.size w w'

theorem lim_eq_of_drop {a b : List Nat} {k : Nat} (h : a.drop k = b.drop k) : lim a k = lim b k := by
  have := congrArg (fun q => lim q 0) h
  simpa [getD_drop] using this

set_option maxHeartbeats 1000000 in
theorem sub_any (A : Option Addr) (n c : Nat) (l : List Nat) (A2 : Option Addr) (m d : Nat) (l2 : List Nat) (w : World) (h : Rd w A n c l) (h2 : Rd w A2 m d l2) (hn : n ≤ 1073741824) :
    Calls Try.prog 90 #[.slice A n c, .slice A2 m d] w (RetSub (val l) (val l2) w) := by
  go_enter Try.func90, Try.ntmps90
  go_wp2_with fail
  refine (cmp_any _ _ _ _ _ _ _ _ _ h h2).mono ?_
  rintro e w1 ⟨rfl, hb1⟩
  by_cases hlt : val l < val l2
  · rw [cmpV_lt hlt]
    have he : val l - val l2 = 0 := by omega
    have HE := hide he
    have HL := hide hlt
    clear he hlt
    go_wp2
    go_ret2
    refine ⟨none, 0, 0, ?_, by rw [HE.out]; exact Rd.nil _, hb1⟩
    rw [if_pos HL.out]
    rfl
  · have hc : ¬ (cmpV (val l) (val l2) < 0) := by
      unfold cmpV
      rw [if_neg hlt]
      split <;> omega
    have hle : val l2 ≤ val l := by omega
    have HL := hide hlt
    have HLE := hide hle
    clear hle hlt
    generalize cmpV (val l) (val l2) = cv at *
    go_wp2_with fail
    refine (trim_own _ _ _ _ _ (h.below hb1) hn).mono ?_
    rintro e w2 ⟨A3, p, c3, rfl, ho, hb2⟩
    have hS0 := below_step hb2 hb1
    have hpl := ho.len
    have hpb : p ≤ 1073741824 := by
      have := length_limbs_val_le h.lims
      have := h.len
      omega
    have hva := val_limbs (val l)
    have hla := ho.lims
    have ho := ho.mono hb1.size
    generalize limbs (val l) = la at *
    have HPL := hide hpl
    have HVA := hide hva
    clear hpl hva
    go_wp2
    go_loopw [7, 18] (fun cc i wr => ∃ (k c1 : Nat) (o : List Nat), k ≤ p ∧ i = .int .i64 (k : Int) ∧ cc = .int .u64 (c1 : Int) ∧ c1 ≤ 1 ∧ Own wr w.heap.size 30 A3 p c3 o ∧ DiffAt la l2 o k c1 ∧ o.drop k = la.drop k ∧ Below w.heap.size w wr) (fun _ i _ => p - (intOf i).toNat)
    case atStart => exact ⟨0, 0, la, Nat.zero_le _, rfl, rfl, by omega, ho, diffAt_zero _ _ _, rfl, hS0⟩
    case round =>
      obtain ⟨k, c1, o, hk, rfl, rfl, hc1, hown, hdf, hdrop, hS⟩ := hrel
      have HD := hide hdf
      have HR := hide hdrop
      have hek := lim_eq_of_drop hdrop
      clear hdf hdrop
      have hxl := hla.getD k
      have hyl := h2.lims.getD k
      by_cases hlt : k < p
      · obtain ⟨g, rfl, hgb, hgs⟩ := hown.block (by omega)
        have hoc := hown.cell hlt
        rw [hek] at hoc
        have hof := hown.free k
        have hdr : (o.set k ((lim la k + 18446744073709551616 - c1 - lim l2 k) % 18446744073709551616 % 4294967296)).drop (k + 1) = la.drop (k + 1) := by
          rw [drop_set_succ]
          have : (o.drop k).drop 1 = (la.drop k).drop 1 := by rw [HR.out]
          simpa [List.drop_drop] using this
        have hst := diffAt_step (x := (lim la k + 18446744073709551616 - c1 - lim l2 k) % 18446744073709551616 % 4294967296) (c' := (lim la k + 18446744073709551616 - c1 - lim l2 k) % 18446744073709551616 / 9223372036854775808) HD.out (by rw [hown.len]; exact hlt) (by omega)
        have HST := hide hst
        have HDR := hide hdr
        clear hst hdr hek
        by_cases hlt2 : k < m
        · obtain ⟨b', off', rfl, hb', hcell'⟩ := (h2.below hS).at hlt2
          have hw : IntKind.u64.wrap (IntKind.u64.wrap ((lim la k : Int) - (c1 : Int)) - (lim l2 k : Int)) = (((lim la k + 18446744073709551616 - c1 - lim l2 k) % 18446744073709551616 : Nat) : Int) := by
            rw [wrap_u64', wrap_u64']; omega
          have HW := hide hw
          clear hw
          go_wp2
          go_roundw
          case rel => exact ⟨k + 1, _, _, by omega, by go_num, congrArg (Value.int IntKind.u64) (by rw [HW.out]; simp), by omega, hown.setInt k (Nat.mod_lt _ (by omega)) (by rw [HW.out]; simp), HST.out, HDR.out, hS.setCell hgb _⟩
          case measure => simp [intOf]; omega
        · have hy0 : lim l2 k = 0 := getD_ge _ _ (by rw [h2.len]; omega)
          have hw : IntKind.u64.wrap ((lim la k : Int) - (c1 : Int)) = (((lim la k + 18446744073709551616 - c1 - lim l2 k) % 18446744073709551616 : Nat) : Int) := by
            rw [wrap_u64', hy0]; omega
          have HW := hide hw
          clear hw hy0
          go_wp2
          go_roundw
          case rel => exact ⟨k + 1, _, _, by omega, by go_num, congrArg (Value.int IntKind.u64) (by rw [HW.out]; simp), by omega, hown.setInt k (Nat.mod_lt _ (by omega)) (by rw [HW.out]; simp), HST.out, HDR.out, hS.setCell hgb _⟩
          case measure => simp [intOf]; omega
      · obtain rfl : k = p := by omega
        have hvo := diffAt_end HD.out HPL.out (val_take_of_lt (by have := val_lt hla; have := HLE.out; have h7 := HPL.out; have h8 := HVA.out; rw [← h7]; omega)) hown.len hown.lims (by rw [HVA.out]; exact HLE.out)
        rw [HVA.out] at hvo
        have HVO := hide hvo
        have hrd := hown.rd
        clear hvo hek hlt
        go_wp2_with fail
        refine (short_lim _ _ _ _ _ hrd).mono ?_
        rintro e w' ⟨q, rfl, hcut, _, rfl⟩
        rw [HVO.out] at hcut
        go_wp2
        go_ret2
        refine ⟨_, _, _, ?_, hcut, hS⟩
        rw [if_neg HL.out]
        rfl
end Go.Proofs.Ytlomanhmpbapeaa
