/- The walk of nat.digit. -/
import Derived.Test.YtfggecdgnidhfaaDoorAddMul
namespace Go.Proofs.YtfggecdgnidhfaaDoor
open Go.RowKit

theorem shl_or_u64 (x y : Nat) (hx : x < 4294967296) (hy : y < 4294967296) : bits .or .u64 ((x : Int) * 4294967296) (y : Int) = ((x * 4294967296 + y : Nat) : Int) := by
  have h1 : (x : Int) * 4294967296 = ((x * 4294967296 : Nat) : Int) := by simp
  have h2 : x * 4294967296 ||| y = x * 4294967296 + y := by
    have := Nat.shiftLeft_add_eq_or_of_lt (a := x) (i := 32) (b := y) hy
    rw [Nat.shiftLeft_eq] at this
    exact this.symm
  rw [h1]
  show IntKind.u64.wrap ((BitVec.ofInt 64 ((x * 4294967296 : Nat) : Int) ||| BitVec.ofInt 64 (y : Int)).toNat : Int) = _
  rw [BitVec.toNat_or, BitVec.ofInt_natCast, BitVec.ofInt_natCast, BitVec.toNat_ofNat, BitVec.toNat_ofNat, Nat.mod_eq_of_lt (by omega), Nat.mod_eq_of_lt (by omega), h2]
  exact IntWalk.u64_in _ (by omega)

theorem mod_cast_small {x : Nat} (h : x < 4294967296) : (x : Int) % 4294967296 = (x : Int) := by omega

/-- nat.digit's two results. -/
def RetDigit (x d : Nat) (w : World) (e : Ending) (w' : World) : Prop :=
  ∃ A n c, e = .returned (.tuple #[.slice A n c, .int .u32 ((x % d : Nat) : Int)]) ∧ Rd w' A n c (limbs (x / d)) ∧ Below w.heap.size w w'

set_option maxHeartbeats 1000000 in
theorem digit_any (A : Option Addr) (n c : Nat) (l : List Nat) (d : Nat) (w : World) (h : Rd w A n c l) (hn : n ≤ 1073741824) (hd0 : 0 < d) (hd : d < 4294967296) :
    Calls Tryd.prog 20 #[.slice A n c, .int .u32 (d : Int)] w (RetDigit (val l) d w) := by
  obtain ⟨i0, hi, hz0, hz1, hz2⟩ := info_parts Tryd.infoU32
  go_enter Tryd.func20, Tryd.ntmps20
  go_wp2_with (at_make; refine wpList_make_rd _ rfl _ _ _ 40 rfl i0 Tryd.underlying23 hi hz0 hz1 hz2 _ _ _ _ n rfl rfl rfl rfl (by omega) ?_; intro w1 hown1 hb1)
  go_loopw [7, 8] (fun cc i wr => ∃ (k r : Nat) (o : List Nat), k ≤ n ∧ i = .int .i64 ((k : Int) - 1) ∧ cc = .int .u64 (r : Int) ∧ r < d ∧ Own wr w.heap.size 40 (some ⟨w.heap.size, 0, none⟩) n n o ∧ DivAt l o d k r ∧ Below w.heap.size w wr) (fun _ i _ => (intOf i + 1).toNat)
  case atStart => exact ⟨n, 0, _, Nat.le_refl _, rfl, rfl, hd0, hown1, divAt_start h.len (by simp) hd0, hb1⟩
  case round =>
    obtain ⟨k, r, o, hk, rfl, rfl, hr, hown, hdv, hS⟩ := hrel
    have HD := hide hdv
    clear hdv
    cases k with
    | zero =>
      obtain ⟨e1, e2⟩ := divAt_end HD.out
      have HE1 := hide e1
      have HE2 := hide e2
      have hrd := hown.rd
      clear e1 e2
      go_wp2_with fail
      refine (short_lim _ _ _ _ _ hrd).mono ?_
      rintro e w' ⟨q, rfl, hcut, _, rfl⟩
      rw [HE1.out] at hcut
      go_wp2
      go_ret2
      exact ⟨_, _, _, by rw [← HE2.out]; rfl, hcut, hS⟩
    | succ j =>
      obtain ⟨b, off, rfl, hb, hcell⟩ := (h.below hS).at (k := j) (by omega)
      have hx := h.lims.getD j
      have hoc := hown.cell (k := j) (by omega)
      have hof := hown.free j
      obtain ⟨s1, s2, s3⟩ := divAt_step HD.out (by rw [h.len]; omega) (by rw [hown.len]; omega) h.lims hd
      have HS1 := hide s1
      have hor := shl_or_u64 r (lim l j) (by omega) hx
      have hml : (r * 4294967296 + lim l j) % d < d := Nat.mod_lt _ hd0
      have hle : (r * 4294967296 + lim l j) / d ≤ r * 4294967296 + lim l j := Nat.div_le_self _ _
      have e1 : (((r * 4294967296 + lim l j) / d : Nat) : Int) = ((r : Int) * 4294967296 + (lim l j : Int)) / (d : Int) := by simp
      have HE1 := hide e1
      clear s1 e1
      go_wp2
      go_roundw
      case rel => exact ⟨j, _, _, by omega, rfl, by go_num, hml, hown.setInt j s2 (by rw [← HE1.out]; exact mod_cast_small s2), HS1.out, hS.setCell (Nat.le_refl _) _⟩
      case measure => simp [intOf]
end Go.Proofs.YtfggecdgnidhfaaDoor
