/- An append that says which block it writes; nat.digit, and where its result lies. -/
import Derived.Test.YtfggecdgnidhfaaDoorDigit
namespace Go.Proofs.YtfggecdgnidhfaaDoor
open Go.RowKit
section
variable {P : Program} {w : World}
theorem wpList_append_rdg {ops : Array Oper} {rest : List Oper} {o : Oper} {a : Act} {Q : Exit → Act → World → Prop} (hgd : o.guard = none) (s x : Operand) (t e : TypeId)
    (ho : o.op = .call { callee := .builtin .append, args := #[s, x], argTypes := #[t, t] }) (i : TypeInfo) (ht : P.underlying t = some (.slice e)) (hi : P.info? e = some i) (hz : i.zero = some (.int .u32 0)) (hsize : i.size = 1) (hby : i.bytes = 4)
    (base : Nat) (A0 : Option Addr) (n0 c0 : Nat) (l0 : List Nat) (hs : a.eval s = .slice A0 n0 c0) (hown : Own w base e A0 n0 c0 l0)
    (A : Option Addr) (n c : Nat) (l : List Nat) (hx : a.eval x = .slice A n c) (hr : Rd w A n c l) (hn : n0 + n ≤ 1073741824) (hbase : base ≤ w.heap.size)
    (h : ∀ A' c' w', Own w' base e A' (n0 + n) c' (l0 ++ l) → Below base w w' → w.grownBy w' (Value.slice A0 n0 c0).ownBlock → wpList P ops Q rest (a.put o.dst (.slice A' (n0 + n) c')) w') : wpList P ops Q (o :: rest) a w := by
  have main : ∃ v' w', (Builtin.append_ #[t, t] o.type #[.slice A0 n0 c0, .slice A n c]).run P w = .ok v' w' ∧ w'.ownsRow base e 1 v' (n0 + n) (u32s l0 ++ u32s l) ∧ w.grownBy w' (Value.slice A0 n0 c0).ownBlock := by
    cases A with
    | none =>
      have hn0 : n = 0 := by
        rcases Nat.eq_zero_or_pos n with h0 | h0
        · exact h0
        · obtain ⟨_, _, h1, _⟩ := hr.cells h0; cases h1
      subst hn0
      have hl : l = [] := List.eq_nil_of_length_eq_zero hr.len
      subst hl
      exact ⟨_, w, run_append_none_src (P := P) w t o.type e i ht hi hown.row c, by simpa [u32s] using hown.row, World.grownBy.refl w _⟩
    | some ad =>
      have hcells : ∀ j u, (u32s l)[j]? = some u → w.cell? (ad.add j) = some u := by
        intro j u hu
        obtain ⟨hj, rfl⟩ := u32s_some hu
        rw [hr.len] at hj
        obtain ⟨b, off, hA, _, hc⟩ := hr.at hj
        injection hA with hA
        subst hA
        rw [Addr.add_lit]
        exact hc
      obtain ⟨v', w', hrun, h2, h3, _⟩ := run_append_own (P := P) w base t o.type e i (.int .u32 0) 1 4 ht hi hz hsize hby rfl (by omega) _ n0 (u32s l0) hown.row ad n c (u32s l)
        (by rw [u32s_length, hr.len]; omega) hcells (u32s_one l) (by unfold maxLen; omega) (by omega) hbase
      exact ⟨v', w', hrun, h2, h3⟩
  obtain ⟨v', w', hrun, h2, h3⟩ := main
  have hform : ∃ A' c', v' = .slice A' (n0 + n) c' := by
    rcases h2.2 with ⟨h4, h5⟩ | ⟨g, cap, cur, h4, _⟩
    · exact ⟨none, 0, by rw [h4, h5]⟩
    · exact ⟨_, _, h4⟩
  obtain ⟨A', c', rfl⟩ := hform
  have hbel : Below base w w' := (Below.refl base w).grown h3 hbase (fun k hk => (hown.row.lt k hk).1)
  refine wpList_plain hgd fun K hK => ?_
  unfold Oper.wp execOp
  simp only [ho, resolve, invoke, builtin, Sem.run_bind, Sem.run_pure, Result.andThen_ok, List.map_toArray, List.map_cons, List.map_nil, hs, hx, hrun]
  exact hK _ _ (h A' c' w' ⟨by rw [u32s_append]; exact h2, hown.lims.append hr.lims⟩ hbel h3)
end
/-- What reads as a number stands while another block is written. -/
theorem Rd.off {w w' : World} {A : Option Addr} {n c g : Nat} {l : List Nat} (h : Rd w A n c l) (hg : w.grownBy w' (some g)) (hno : ∀ b off, A = some ⟨b, off, none⟩ → b ≠ g) : Rd w' A n c l :=
  ⟨h.len, h.cap, h.max, h.lims, fun hn => by
    obtain ⟨b, off, e, hlt, hc⟩ := h.cells hn
    have hne := hno b off e
    exact ⟨b, off, e, Nat.lt_of_lt_of_le hlt hg.size, fun j hj => hg.cell (hc j hj) (by simpa using hne)⟩⟩
theorem Rd.offn {w w' : World} {A : Option Addr} {n c : Nat} {l : List Nat} (h : Rd w A n c l) (hg : w.grownBy w' none) : Rd w' A n c l :=
  ⟨h.len, h.cap, h.max, h.lims, fun hn => by
    obtain ⟨b, off, e, hlt, hc⟩ := h.cells hn
    exact ⟨b, off, e, Nat.lt_of_lt_of_le hlt hg.size, fun j hj => hg.cell (hc j hj) (by simp)⟩⟩
/-- .. while an own row of another block grows. -/
theorem Rd.apart {w w' : World} {A : Option Addr} {n c : Nat} {l : List Nat} (h : Rd w A n c l) {B : Option Addr} {m d base : Nat} {e : TypeId} {k : List Nat} (ho : Own w base e B m d k) (hg : w.grownBy w' (Value.slice B m d).ownBlock)
    (hno : ∀ b off g, A = some ⟨b, off, none⟩ → B = some ⟨g, 0, none⟩ → b ≠ g) : Rd w' A n c l := by
  rcases ho.form with ⟨rfl, rfl, rfl⟩ | ⟨g, rfl, _⟩
  · exact h.offn hg
  · exact h.off hg fun b off e => hno b off g e rfl
/-- nat.digit's two results: the quotient lies in a block of its own. -/
def RetDigitF (x d : Nat) (w : World) (e : Ending) (w' : World) : Prop :=
  ∃ n c, e = .returned (.tuple #[.slice (some ⟨w.heap.size, 0, none⟩) n c, .int .u32 ((x % d : Nat) : Int)]) ∧ Rd w' (some ⟨w.heap.size, 0, none⟩) n c (limbs (x / d)) ∧ Below w.heap.size w w'
set_option maxHeartbeats 1000000 in
theorem digit_fresh (A : Option Addr) (n c : Nat) (l : List Nat) (d : Nat) (w : World) (h : Rd w A n c l) (hn : n ≤ 1073741824) (hd0 : 0 < d) (hd : d < 4294967296) :
    Calls Tryd.prog 20 #[.slice A n c, .int .u32 (d : Int)] w (RetDigitF (val l) d w) := by
  obtain ⟨i0, hi, hz0, hz1, hz2⟩ := info_parts Tryd.infoU32
  go_enter Tryd.func20, Tryd.ntmps20
  go_wp2_with (at_make; refine wpList_make_rd _ rfl _ _ _ 40 rfl i0 Tryd.underlying23 hi hz0 hz1 hz2 _ _ _ _ n rfl rfl rfl rfl (by omega) ?_; intro w1 hown1 hb1)
  go_loopw [7, 8] (fun cc i wr => ∃ (k r : Nat) (o : List Nat), k ≤ n ∧ i = .int .i64 ((k : Int) - 1) ∧ cc = .int .u64 (r : Int) ∧ r < d ∧ Own wr w.heap.size 40 (some ⟨w.heap.size, 0, none⟩) n n o ∧ DivAt l o d k r ∧ Below w.heap.size w wr) (fun _ i _ => (intOf i + 1).toNat)
  case atStart => exact ⟨n, 0, _, Nat.le_refl _, rfl, rfl, hd0, hown1, divAt_start h.len (by simp) hd0, hb1⟩
  case round =>
    obtain ⟨k, r, o, hk, rfl, rfl, hr, hown, hdv, hS⟩ := hrel
    have HD := hide hdv
    clear hdv
    cases k with
    | zero =>
      obtain ⟨e1, e2⟩ := divAt_end HD.out
      have HE1 := hide e1
      have HE2 := hide e2
      have hrd := hown.rd
      clear e1 e2
      go_wp2_with fail
      refine (short_lim _ _ _ _ _ hrd).mono ?_
      rintro e w' ⟨q, rfl, hcut, _, rfl⟩
      rw [HE1.out] at hcut
      go_wp2
      go_ret2
      exact ⟨_, _, by rw [← HE2.out]; rfl, hcut, hS⟩
    | succ j =>
      obtain ⟨b, off, rfl, hb, hcell⟩ := (h.below hS).at (k := j) (by omega)
      have hx := h.lims.getD j
      have hoc := hown.cell (k := j) (by omega)
      have hof := hown.free j
      obtain ⟨s1, s2, s3⟩ := divAt_step HD.out (by rw [h.len]; omega) (by rw [hown.len]; omega) h.lims hd
      have HS1 := hide s1
      have hor := shl_or_u64 r (lim l j) (by omega) hx
      have hml : (r * 4294967296 + lim l j) % d < d := Nat.mod_lt _ hd0
      have hle : (r * 4294967296 + lim l j) / d ≤ r * 4294967296 + lim l j := Nat.div_le_self _ _
      have e1 : (((r * 4294967296 + lim l j) / d : Nat) : Int) = ((r : Int) * 4294967296 + (lim l j : Int)) / (d : Int) := by simp
      have HE1 := hide e1
      clear s1 e1
      go_wp2
      go_roundw
      case rel => exact ⟨j, _, _, by omega, rfl, by go_num, hml, hown.setInt j s2 (by rw [← HE1.out]; exact mod_cast_small s2), HS1.out, hS.setCell (Nat.le_refl _) _⟩
      case measure => simp [intOf]
end Go.Proofs.YtfggecdgnidhfaaDoor
