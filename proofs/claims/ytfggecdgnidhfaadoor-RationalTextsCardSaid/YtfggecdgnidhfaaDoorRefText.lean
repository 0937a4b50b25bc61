/- The decimal text of a number: the walk of the reference's Text. -/
import Derived.Test.YtfggecdgnidhfaaDoorDecM
import Derived.Test.YtfggecdgnidhfaaDoorAppG
import Derived.Test.YtfggecdgnidhfaaDoorRefAdd
import Derived.Test.YtfggecdgnidhfaaDoorRefBinom
import Derived.Laws.IdiomStrings
namespace Go.Proofs.YtfggecdgnidhfaaDoor
open Go.RowKit
def u8s (l : List UInt8) : List Value := l.map fun b => Value.int .u8 (b.toNat : Int)
theorem u8s_len (l : List UInt8) : (u8s l).length = l.length := by simp [u8s]
theorem u8s_app (l m : List UInt8) : u8s (l ++ m) = u8s l ++ u8s m := by simp [u8s]
theorem u8s_one (l : List UInt8) : ∀ u ∈ u8s l, u.oneCell' = true := by
  intro u hu
  obtain ⟨_, _, rfl⟩ := List.mem_map.1 hu
  rfl
/-- An own row of bytes. -/
def OwnB (w : World) (base : Nat) (A : Option Addr) (n c : Nat) (l : List UInt8) : Prop := w.ownsRow base 5 1 (.slice A n c) n (u8s l)
theorem OwnB.len {w : World} {base : Nat} {A : Option Addr} {n c : Nat} {l : List UInt8} (h : OwnB w base A n c l) : l.length = n := by
  have := h.1
  rw [u8s_len] at this
  omega
theorem OwnB.below {w w' : World} {base : Nat} {A : Option Addr} {n c : Nat} {l : List UInt8} (h : OwnB w base A n c l) (hb : Below w.heap.size w w') : OwnB w' base A n c l := by
  refine ⟨h.1, ?_⟩
  rcases h.2 with h1 | ⟨g, cap, cur, h1, h2, h3, r⟩
  · exact .inl h1
  · exact .inr ⟨g, cap, cur, h1, h2, (hb.block g (Array.getElem?_eq_some_iff.1 h3).1).trans h3, r⟩
theorem OwnB.form {w : World} {base : Nat} {A : Option Addr} {n c : Nat} {l : List UInt8} (h : OwnB w base A n c l) : (A = none ∧ n = 0 ∧ c = 0) ∨ ∃ g, A = some ⟨g, 0, none⟩ ∧ base ≤ g ∧ g < w.heap.size := by
  rcases h.2 with ⟨h1, h2⟩ | ⟨g, cap, cur, h1, h2, h3, _⟩
  · simp only [Value.slice.injEq] at h1
    exact .inl ⟨h1.1, h1.2.1, h1.2.2⟩
  · simp only [Value.slice.injEq] at h1
    exact .inr ⟨g, h1.1, h2, (Array.getElem?_eq_some_iff.1 h3).1⟩
theorem OwnB.nil (w : World) (base : Nat) : OwnB w base none 0 0 [] := World.ownsRow_nil w base 5 1
/-- A row of bytes and a row of limbs lie in blocks of their own. -/
theorem rows_ne {w : World} {base : Nat} {A : Option Addr} {n c : Nat} {l : List UInt8} (h : OwnB w base A n c l) {B : Option Addr} {m d base' : Nat} {k : List Nat} (h' : Own w base' 40 B m d k) :
    (Value.slice A n c).ownBlock = none ∨ (Value.slice A n c).ownBlock ≠ (Value.slice B m d).ownBlock := by
  rcases h.2 with ⟨h1, _⟩ | ⟨g, cap, cur, h1, _, h3, _⟩
  · rw [h1]; exact .inl rfl
  · right
    rcases h'.row.2 with ⟨k1, _⟩ | ⟨g', cap', cur', k1, _, k3, _⟩
    · rw [h1, k1]; simp [Value.ownBlock]
    · rw [h1, k1]
      simp only [Value.ownBlock, ne_eq, Option.some.injEq]
      intro e
      subst e
      rw [h3] at k3
      simp only [Option.some.injEq, Obj.cells.injEq] at k3
      exact absurd k3.2.1 (by decide)
theorem OwnB.cells {w : World} {base : Nat} {A : Option Addr} {n c : Nat} {l : List UInt8} (h : OwnB w base A n c l) {ad : Addr} (hA : A = some ad) : ∀ j u, (u8s l)[j]? = some u → w.cell? (ad.add j) = some u := by
  rcases h.form with ⟨h1, _⟩ | ⟨g, h1, _⟩
  · rw [h1] at hA; cases hA
  · rw [h1] at hA
    injection hA with hA
    subst hA
    exact World.ownsRow.cells h (by rw [h1]; rfl)
section
variable {P : Program} {w : World}
theorem wpList_append_u8 {ops : Array Oper} {rest : List Oper} {o : Oper} {a : Act} {Q : Exit → Act → World → Prop} (hgd : o.guard = none) (s x : Operand) (t : TypeId)
    (ho : o.op = .call { callee := .builtin .append, args := #[s, x], argTypes := #[t, t] }) (i : TypeInfo) (ht : P.underlying t = some (.slice 5)) (hi : P.info? 5 = some i) (hz : i.zero = some (.int .u8 0)) (hsize : i.size = 1) (hby : i.bytes = 1)
    (base : Nat) (A0 : Option Addr) (n0 c0 : Nat) (l0 : List UInt8) (hs : a.eval s = .slice A0 n0 c0) (hown : OwnB w base A0 n0 c0 l0)
    (base2 : Nat) (A : Option Addr) (n c : Nat) (l : List UInt8) (hx : a.eval x = .slice A n c) (hr : OwnB w base2 A n c l) (hn : n0 + n ≤ 1073741824) (hbase : base ≤ w.heap.size)
    (h : ∀ A' c' w', OwnB w' base A' (n0 + n) c' (l0 ++ l) → Below base w w' → w.grownBy w' (Value.slice A0 n0 c0).ownBlock → wpList P ops Q rest (a.put o.dst (.slice A' (n0 + n) c')) w') : wpList P ops Q (o :: rest) a w := by
  have main : ∃ v' w', (Builtin.append_ #[t, t] o.type #[.slice A0 n0 c0, .slice A n c]).run P w = .ok v' w' ∧ w'.ownsRow base 5 1 v' (n0 + n) (u8s l0 ++ u8s l) ∧ w.grownBy w' (Value.slice A0 n0 c0).ownBlock := by
    cases A with
    | none =>
      rcases hr.form with ⟨_, hn0, _⟩ | ⟨g, h9, _⟩
      · subst hn0
        have hl : l = [] := List.eq_nil_of_length_eq_zero hr.len
        subst hl
        exact ⟨_, w, run_append_none_src (P := P) w t o.type 5 i ht hi hown c, by simpa [u8s, OwnB] using hown, World.grownBy.refl w _⟩
      · cases h9
    | some ad =>
      obtain ⟨v', w', hrun, h2, h3, _⟩ := run_append_own (P := P) w base t o.type 5 i (.int .u8 0) 1 1 ht hi hz hsize hby rfl (by omega) _ n0 (u8s l0) hown ad n c (u8s l)
        (by rw [u8s_len, hr.len]; omega) (hr.cells rfl) (u8s_one l) (by unfold maxLen; omega) (by omega) hbase
      exact ⟨v', w', hrun, h2, h3⟩
  obtain ⟨v', w', hrun, h2, h3⟩ := main
  have hform : ∃ A' c', v' = .slice A' (n0 + n) c' := by
    rcases h2.2 with ⟨h4, h5⟩ | ⟨g, cap, cur, h4, _⟩
    · exact ⟨none, 0, by rw [h4, h5]⟩
    · exact ⟨_, _, h4⟩
  obtain ⟨A', c', rfl⟩ := hform
  have hbel : Below base w w' := (Below.refl base w).grown h3 hbase (fun k hk => (hown.lt k hk).1)
  refine wpList_plain hgd fun K hK => ?_
  unfold Oper.wp execOp
  simp only [ho, resolve, invoke, builtin, Sem.run_bind, Sem.run_pure, Result.andThen_ok, List.map_toArray, List.map_cons, List.map_nil, hs, hx, hrun]
  exact hK _ _ (h A' c' w' (by unfold OwnB; rw [u8s_app]; exact h2) hbel h3)
end
theorem Tryd.infoU8 : (Tryd.prog.info? 5).map (fun i => (i.zero, i.size, i.bytes)) = some (some (.int .u8 0), 1, 1) := by kernel_rfl
/-- One byte, written out. -/
theorem ownB_one (w : World) {c : UInt8} {z : Int} (hz : z = (c.toNat : Int)) : OwnB (w.alloc (.cells #[Value.int .u8 z] 5)) w.heap.size (some ⟨w.heap.size, 0, none⟩) 1 1 [c] := by
  subst hz
  have := World.ownsRow_lit (w := w) (base := w.heap.size) (e := 5) (size := 1) #[Value.int .u8 (c.toNat : Int)] 1 (Nat.le_refl _) (by decide) (by simp)
  exact this
theorem lim_take {l m : List Nat} {i j : Nat} (h : l.take i = m.take i) (hj : j < i) : lim l j = lim m j := by
  have h1 : (l.take i).getD j 0 = (m.take i).getD j 0 := by rw [h]
  unfold lim
  simp only [List.getD_eq_getElem?_getD, List.getElem?_take_of_lt hj] at h1 ⊢
  exact h1
theorem OwnB.lower {w : World} {base base' : Nat} {A : Option Addr} {n c : Nat} {l : List UInt8} (h : OwnB w base A n c l) (hb : base' ≤ base) : OwnB w base' A n c l := by
  refine ⟨h.1, ?_⟩
  rcases h.2 with h1 | ⟨g, cap, cur, h1, h2, r⟩
  · exact .inl h1
  · exact .inr ⟨g, cap, cur, h1, Nat.le_trans hb h2, r⟩
/-- The length of a slice. -/
def lenW : Value → Nat
  | .slice _ n _ => n
  | _ => 0
theorem dig_few {t N : Nat} (h : N / 10 ^ t ≠ 0) : t ≤ N := by
  have h1 : 10 ^ t ≤ N := by
    rcases Nat.lt_or_ge N (10 ^ t) with h2 | h2
    · exact absurd (Nat.div_eq_of_lt h2) h
    · exact h2
  have h2 : 2 ^ t ≤ 10 ^ t := Nat.pow_le_pow_left (by decide) t
  have := Nat.lt_two_pow_self (n := t)
  omega
theorem dig_small {t N n : Nat} (h : N / 10 ^ t ≠ 0) (hN : N < 4294967296 ^ n) : t < 32 * n := by
  have h1 : 10 ^ t ≤ N := by
    rcases Nat.lt_or_ge N (10 ^ t) with h2 | h2
    · exact absurd (Nat.div_eq_of_lt h2) h
    · exact h2
  have h2 : 2 ^ t ≤ 10 ^ t := Nat.pow_le_pow_left (by decide) t
  have h3 : 4294967296 ^ n = 2 ^ (32 * n) := by rw [Nat.pow_mul]
  have h4 : 2 ^ t < 2 ^ (32 * n) := by omega
  exact (Nat.pow_lt_pow_iff_right (by decide)).1 h4
theorem limbs_none {N n : Nat} {w : World} {A : Option Addr} {c : Nat} (h : Rd w A n c (limbs N)) : n = 0 ↔ N = 0 := by
  have h1 := h.len
  constructor
  · intro h2
    rw [← val_limbs N, List.eq_nil_of_length_eq_zero (show (limbs N).length = 0 by omega)]; rfl
  · intro h2
    subst h2
    rw [limbs_zero] at h1
    exact h1.symm
set_option maxHeartbeats 8000000 in
set_option maxRecDepth 10000 in
theorem rtext_any (A : Option Addr) (n c : Nat) (l : List Nat) (w : World) (h : Rd w A n c l) (hn : n ≤ 100000) :
    Calls Tryd.prog 9 #[.slice A n c] w (Makes (.string ⟨(dec (val l)).toArray⟩) w) := by
  obtain ⟨i0, hi, hz0, hz1, hz2⟩ := info_parts Tryd.infoU32
  obtain ⟨i1, hy, hy0, hy1, hy2⟩ := info_parts Tryd.infoU8
  obtain ⟨N, hN⟩ : ∃ N, N = val l := ⟨_, rfl⟩
  have hNlt : N < 4294967296 ^ n := by
    have := val_lt h.lims
    rw [h.len] at this
    rw [hN]
    exact this
  rw [← hN]
  have HNL := hide hNlt
  clear hNlt
  go_enter Tryd.func9, Tryd.ntmps9
  go_wp2_with fail
  refine (rtrim_own A n c l w h (by omega)).mono ?_
  rintro e w1 ⟨A1, n1, c1, rfl, h1, hb1⟩
  rw [← hN] at h1
  have hr0 : Own w1 w.heap.size 40 A1 n1 c1 (limbs (N / 10 ^ 0)) := by rw [Nat.pow_zero, Nat.div_one]; exact h1
  clear hN h h1
  go_wp2_with fail
  go_loopw [0, 3, 4, 5, 6] (fun av ov _ _ _ wr => ∃ (t : Nat) (A1 : Option Addr) (n1 c1 : Nat) (A2 : Option Addr) (c2 : Nat), av = .slice A1 n1 c1 ∧ ov = .slice A2 t c2 ∧ Own wr w.heap.size 40 A1 n1 c1 (limbs (N / 10 ^ t)) ∧ OwnB wr w.heap.size A2 t c2 (dgs t N) ∧ (1 < t → N / 10 ^ (t - 1) ≠ 0) ∧ Below w.heap.size w wr) (fun _ ov _ _ _ _ => N + 2 - lenW ov)
  case atStart => exact ⟨0, _, _, _, _, _, rfl, rfl, hr0, OwnB.nil _ _, fun h => absurd h (by omega), hb1⟩
  case round =>
    clear hr0 hb1
    obtain ⟨t, A1, n1, c1, A2, c2, rfl, rfl, hown, hout, hne, hS⟩ := hrel
    have hnz := limbs_none hown.rd
    by_cases hgo : N / 10 ^ t = 0 ∧ 0 < t
    · obtain ⟨hq, ht⟩ := hgo
      obtain rfl : n1 = 0 := hnz.2 hq
      have HE := hide (dec_dgs ht hq hne)
      obtain ⟨g, rfl, _, _⟩ : ∃ g, A2 = some ⟨g, 0, none⟩ ∧ w.heap.size ≤ g ∧ g < wr.heap.size := by
        rcases hout.form with ⟨_, h9, _⟩ | h9
        · omega
        · exact h9
      have hc : ∀ j (hj : j < (dgs t N).length), wr.cell? ((⟨g, 0, none⟩ : Addr).add j) = some (.int .u8 ((dgs t N)[j].toNat : Int)) := by
        intro j hj
        exact hout.cells rfl j _ (by simp [u8s, hj])
      have hback := run_convert_bytes_back (P := Tryd.prog) wr 44 9 5 ⟨g, 0, none⟩ c2 (dgs t N) Tryd.underlying44 Tryd.underlying5 Tryd.underlying9 hc
      rw [dgs_len, HE.out] at hback
      have ht0 : ((t : Int) == 0) = false := by simp; omega
      clear hc hq hne hnz hown hout
      go_wp2
      go_ret
      exact ⟨rfl, hS⟩
    · have hcases : (0 : Int) < (n1 : Int) ∨ (¬ (0 : Int) < (n1 : Int) ∧ ((t : Int) == 0) = true) := by
        rcases Nat.eq_zero_or_pos n1 with h9 | h9
        · right
          have := hnz.1 h9
          refine ⟨by omega, ?_⟩
          rcases Nat.eq_zero_or_pos t with h8 | h8
          · rw [h8]; rfl
          · exact absurd ⟨this, h8⟩ hgo
        · left; omega
      have hn1b : n1 ≤ 100000 := by
        have h2 := hown.len
        have h3 : (limbs (N / 10 ^ t)).length ≤ n := length_limbs_le (Nat.lt_of_le_of_lt (Nat.div_le_self _ _) HNL.out)
        omega
      have htN : t ≤ N + 1 ∧ t ≤ 3200001 := by
        by_cases h9 : N / 10 ^ t = 0
        · have h8 : t = 0 := by
            rcases Nat.eq_zero_or_pos t with h8 | h8
            · exact h8
            · exact absurd ⟨h9, h8⟩ hgo
          omega
        · have h7 := dig_few h9
          have h6 := dig_small h9 HNL.out
          omega
      have HTN := hide htN
      have hnx : 1 < t + 1 → N / 10 ^ (t + 1 - 1) ≠ 0 := by
        intro h9 h8
        rw [Nat.add_sub_cancel] at h8
        exact hgo ⟨h8, by omega⟩
      have HNX := hide hnx
      obtain ⟨M, hM⟩ : ∃ M, M = N / 10 ^ t := ⟨_, rfl⟩
      rw [← hM] at hown hnz
      have HM := hide hM
      have hlen : (limbs M).length = n1 := hown.len
      have hlims : Lims (limbs M) := hown.lims
      have HLEN := hide hlen
      have HLIMS := hide hlims
      have hown0 := hown
      clear htN hnx hne hgo hM hnz hlen hlims hown
      generalize hla : limbs M = la at *
      have HLA := hide hla
      clear hla
      rcases hcases with hgt | ⟨hgt, hq0⟩
      · go_wp2_with fail
        go_loopw [4, 5, 6] (fun rv iv _ wr2 => ∃ (k r : Nat) (o : List Nat), k ≤ n1 ∧ iv = .int .i64 ((k : Int) - 1) ∧ rv = .int .u64 (r : Int) ∧ r < 10 ∧ Own wr2 w.heap.size 40 A1 n1 c1 o ∧ o.take k = la.take k ∧ DivAt la o 10 k r ∧ OwnB wr2 w.heap.size A2 t c2 (dgs t N) ∧ Below w.heap.size w wr2) (fun _ iv _ _ => (intOf iv + 1).toNat)
        case atStart => exact ⟨n1, 0, la, Nat.le_refl _, rfl, rfl, by decide, hown0, rfl, divAt_start HLEN.out HLEN.out (by decide), hout, hS⟩
        case round =>
          clear hown0 hout hS
          obtain ⟨k, r, o, hk, rfl, rfl, hr, hown, htk, hdv, hout, hS⟩ := hrel
          have HD := hide hdv
          have HTK := hide htk
          clear hdv htk
          cases k with
          | zero =>
            obtain ⟨e1, e2⟩ := divAt_end HD.out
            have hvM : val la = M := by rw [← HLA.out, val_limbs]
            rw [hvM] at e1 e2
            have hz : (48 : Int) + (r : Int) = ((dgt M).toNat : Int) := by rw [dgt_toNat]; omega
            have HV := hide e1
            have hba := below_alloc wr (.cells #[Value.int .u8 ((48 : Int) + (r : Int))] 5)
            have HL : Hid (OwnB (wr.alloc (.cells #[Value.int .u8 ((48 : Int) + (r : Int))] 5)) w.heap.size (some ⟨wr.heap.size, 0, none⟩) 1 1 [dgt M]) := (ownB_one wr hz).lower hS.size
            have HO := hide (hout.below hba)
            have HA := hide (hown.below hba)
            have HNE : Hid ((Value.slice A1 n1 c1).ownBlock = none ∨ (Value.slice A1 n1 c1).ownBlock ≠ (Value.slice (some ⟨wr.heap.size, 0, none⟩) 1 1).ownBlock) := by
              rcases hown.form with ⟨h9, h8, h7⟩ | ⟨g, h9, _, h8, _⟩
              · left; rw [h9]; rfl
              · right; rw [h9]; simp only [Value.ownBlock, ne_eq, Option.some.injEq]; omega
            have hS2 := below_step hba hS
            have hsz : w.heap.size ≤ wr.heap.size + 1 := by have := hS.size; omega
            have htb : 1 + t ≤ 1073741824 := by have := HTN.out.2; omega
            have hr9 : r ≤ 9 := by omega
            clear e1 e2 hvM hba hout hown hz
            go_wp2_with (at_builtin; refine wpList_append_u8 rfl _ _ 44 rfl i1 Tryd.underlying44 hy hy0 hy1 hy2 w.heap.size _ 1 1 [dgt M] rfl HL.out w.heap.size _ t c2 (dgs t N) rfl HO.out htb (by simp; exact hsz) ?_; intro A' c' w4 hown1 hb1 hgr)
            have hA2 : Own w4 w.heap.size 40 A1 n1 c1 o := ⟨HA.out.row.kept hgr HNE.out, HA.out.lims⟩
            have hS4 := hS2.trans hb1
            refine (rtrim_own A1 n1 c1 o w4 hA2.rd (by omega)).mono ?_
            rintro e w5 ⟨A5, n5, c5, rfl, h5, hb5⟩
            have h6 : Own w5 w.heap.size 40 A5 n5 c5 (limbs (N / 10 ^ (1 + t))) := by
              rw [HV.out, HM.out, Nat.div_div_eq_div_mul, ← Nat.pow_succ, show t.succ = 1 + t by omega] at h5
              exact h5.mono hS4.size
            have h7 : OwnB w5 w.heap.size A' (1 + t) c' (dgs (1 + t) N) := by
              have h8 := hown1.below hb5
              rw [Nat.add_comm 1 t, dgs_top, ← HM.out]
              rw [Nat.add_comm 1 t] at h8
              exact h8
            have HF := hide (And.intro h6 (And.intro h7 (below_step hb5 hS4)))
            have HX9 : Hid (1 < 1 + t → N / 10 ^ (1 + t - 1) ≠ 0) := by rw [Nat.add_comm 1 t]; exact HNX.out
            clear h5 h6 h7 hb5 hb1 hgr hown1 hA2 hS4 hS2
            go_wp2
            go_roundw
            case rel => exact ⟨1 + t, A5, n5, c5, A', c', rfl, rfl, HF.out.1, HF.out.2.1, HX9.out, HF.out.2.2⟩
            case measure => (have h9 := HTN.out.1); simp [lenW] <;> omega
          | succ j =>
            have hji : ((j + 1 : Nat) : Int) - 1 = (j : Int) := by omega
            rw [hji]
            obtain ⟨g, rfl, hg9, _⟩ := hown.block (by omega)
            have hlj : lim o j = lim la j := lim_take HTK.out (by omega)
            have hoc := hown.cell (k := j) (by omega)
            rw [hlj] at hoc
            have hof := hown.free j
            have hx := HLIMS.out.getD j
            obtain ⟨s1, s2, s3⟩ := divAt_step HD.out (by rw [HLEN.out]; omega) (by rw [hown.len]; omega) HLIMS.out (by omega)
            have HS1 := hide s1
            have hor := shl_add_u64 r (lim la j) (by omega) hx
            have hml : (r * 4294967296 + lim la j) % 10 < 10 := Nat.mod_lt _ (by decide)
            have hle : (r * 4294967296 + lim la j) / 10 ≤ r * 4294967296 + lim la j := Nat.div_le_self _ _
            have e1 : (((r * 4294967296 + lim la j) / 10 : Nat) : Int) = ((r : Int) * 4294967296 + (lim la j : Int)) / 10 := by simp
            have HE1 := hide e1
            have htk2 : (o.set j ((r * 4294967296 + lim la j) / 10)).take j = la.take j := by
              rw [List.take_set_of_le (Nat.le_refl _)]
              have h9 := congrArg (List.take j) HTK.out
              rw [List.take_take, List.take_take, Nat.min_eq_left (by omega)] at h9
              exact h9
            have HTK2 := hide htk2
            have hne9 := rows_ne hout hown
            have hrow := hown.setInt j s2 (z := ((r : Int) * 4294967296 + (lim la j : Int)) / 10) (by rw [← HE1.out])
            have hout2 : OwnB (wr.setCell ⟨g, j, none⟩ (.int .u32 (((r : Int) * 4294967296 + (lim la j : Int)) / 10))) w.heap.size A2 t c2 (dgs t N) :=
              World.ownsRow.kept hout (hown.row.stored j _).2 (by simpa [Value.ownBlock] using hne9)
            have HF := hide (And.intro hrow (And.intro hout2 (hS.setCell (p := ⟨g, j, none⟩) (by omega) (.int .u32 (((r : Int) * 4294967296 + (lim la j : Int)) / 10)))))
            clear s1 e1 htk2 hne9 hrow hout2 hlj hout
            go_wp2
            go_roundw
            case rel => exact ⟨j, _, _, by omega, rfl, by go_num, hml, HF.out.1, HTK2.out, HS1.out, HF.out.2.1, HF.out.2.2⟩
            case measure => simp [intOf]
      · obtain rfl : n1 = 0 := by omega
        clear hgt
        go_wp2_with fail
        go_loopw [4, 5, 6] (fun rv iv _ wr2 => ∃ (k r : Nat) (o : List Nat), k ≤ 0 ∧ iv = .int .i64 ((k : Int) - 1) ∧ rv = .int .u64 (r : Int) ∧ r < 10 ∧ Own wr2 w.heap.size 40 A1 0 c1 o ∧ o.take k = la.take k ∧ DivAt la o 10 k r ∧ OwnB wr2 w.heap.size A2 t c2 (dgs t N) ∧ Below w.heap.size w wr2) (fun _ iv _ _ => (intOf iv + 1).toNat)
        case atStart => exact ⟨0, 0, la, Nat.le_refl _, rfl, rfl, by decide, hown0, rfl, divAt_start HLEN.out HLEN.out (by decide), hout, hS⟩
        case round =>
          clear hown0 hout hS
          obtain ⟨k, r, o, hk, rfl, rfl, hr, hown, htk, hdv, hout, hS⟩ := hrel
          have HD := hide hdv
          have HTK := hide htk
          clear hdv htk
          cases k with
          | zero =>
            obtain ⟨e1, e2⟩ := divAt_end HD.out
            have hvM : val la = M := by rw [← HLA.out, val_limbs]
            rw [hvM] at e1 e2
            have hz : (48 : Int) + (r : Int) = ((dgt M).toNat : Int) := by rw [dgt_toNat]; omega
            have HV := hide e1
            have hba := below_alloc wr (.cells #[Value.int .u8 ((48 : Int) + (r : Int))] 5)
            have HL : Hid (OwnB (wr.alloc (.cells #[Value.int .u8 ((48 : Int) + (r : Int))] 5)) w.heap.size (some ⟨wr.heap.size, 0, none⟩) 1 1 [dgt M]) := (ownB_one wr hz).lower hS.size
            have HO := hide (hout.below hba)
            have HA := hide (hown.below hba)
            have HNE : Hid ((Value.slice A1 0 c1).ownBlock = none ∨ (Value.slice A1 0 c1).ownBlock ≠ (Value.slice (some ⟨wr.heap.size, 0, none⟩) 1 1).ownBlock) := by
              rcases hown.form with ⟨h9, h8, h7⟩ | ⟨g, h9, _, h8, _⟩
              · left; rw [h9]; rfl
              · right; rw [h9]; simp only [Value.ownBlock, ne_eq, Option.some.injEq]; omega
            have hS2 := below_step hba hS
            have hsz : w.heap.size ≤ wr.heap.size + 1 := by have := hS.size; omega
            have htb : 1 + t ≤ 1073741824 := by have := HTN.out.2; omega
            have hr9 : r ≤ 9 := by omega
            clear e1 e2 hvM hba hout hown hz
            go_wp2_with (at_builtin; refine wpList_append_u8 rfl _ _ 44 rfl i1 Tryd.underlying44 hy hy0 hy1 hy2 w.heap.size _ 1 1 [dgt M] rfl HL.out w.heap.size _ t c2 (dgs t N) rfl HO.out htb (by simp; exact hsz) ?_; intro A' c' w4 hown1 hb1 hgr)
            have hA2 : Own w4 w.heap.size 40 A1 0 c1 o := ⟨HA.out.row.kept hgr HNE.out, HA.out.lims⟩
            have hS4 := hS2.trans hb1
            refine (rtrim_own A1 0 c1 o w4 hA2.rd (by omega)).mono ?_
            rintro e w5 ⟨A5, n5, c5, rfl, h5, hb5⟩
            have h6 : Own w5 w.heap.size 40 A5 n5 c5 (limbs (N / 10 ^ (1 + t))) := by
              rw [HV.out, HM.out, Nat.div_div_eq_div_mul, ← Nat.pow_succ, show t.succ = 1 + t by omega] at h5
              exact h5.mono hS4.size
            have h7 : OwnB w5 w.heap.size A' (1 + t) c' (dgs (1 + t) N) := by
              have h8 := hown1.below hb5
              rw [Nat.add_comm 1 t, dgs_top, ← HM.out]
              rw [Nat.add_comm 1 t] at h8
              exact h8
            have HF := hide (And.intro h6 (And.intro h7 (below_step hb5 hS4)))
            have HX9 : Hid (1 < 1 + t → N / 10 ^ (1 + t - 1) ≠ 0) := by rw [Nat.add_comm 1 t]; exact HNX.out
            clear h5 h6 h7 hb5 hb1 hgr hown1 hA2 hS4 hS2
            go_wp2
            go_roundw
            case rel => exact ⟨1 + t, A5, n5, c5, A', c', rfl, rfl, HF.out.1, HF.out.2.1, HX9.out, HF.out.2.2⟩
            case measure => (have h9 := HTN.out.1); simp [lenW] <;> omega
          | succ j =>
            exact absurd hk (by omega)
end Go.Proofs.YtfggecdgnidhfaaDoor
