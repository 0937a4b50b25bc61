/- Part of WholeTraces. -/
import Derived.WalkKit
import Derived.WalkSpells
import Derived.WalkLawsBesides
import Derived.Lib.Hide
import Derived.IntWalk
import Derived.Test.YtoalkldfhkabnaaGreatDoorProg
import Derived.Deep.RegionHeld3
import Derived.StillTail
set_option linter.all false
set_option maxRecDepth 10000
set_option maxHeartbeats 16000000
namespace Go.Proofs.YtoalkldfhkabnaaGreatDoor
section
abbrev sQ (b : Nat) : Option Go.Addr := some ⟨b, 0, none⟩
abbrev pQ (b : Nat) : Go.Value := .pointer (some ⟨b, 0, none⟩)
abbrev nQ (x : Nat) : Go.Value := .int .i64 (x : Int)
abbrev cQ := Go.Calls Tryz.prog
abbrev zQ : Go.Value := .int .i64 0
abbrev eQ : Go.Value := .slice none 0 0
abbrev WQ := Go.World
abbrev NQ := List Nat
abbrev VQ := List Go.Value
theorem bR {B : Nat} {w : Go.World} : Go.RowKit.Below B w w := Go.RowKit.Below.refl _ _
abbrev LQ := List (List Nat)
abbrev OQ := Option Go.Addr
abbrev qa := @List.getD_eq_getElem?_getD
abbrev qb := @Nat.le_refl
abbrev qc := @Option.some.injEq
abbrev qd := @Go.Addr.mk.injEq
abbrev qe := @Nat.zero_le
abbrev qf := @Go.RowKit.Below.mono
abbrev qg := @Array.getElem?_eq_some_iff
abbrev qh := @List.getElem?_eq_getElem
abbrev qi := @Go.World.size_alloc
abbrev qj := @List.setIfInBounds_toArray
abbrev qk := @Nat.lt_of_lt_of_le
abbrev qm := @Go.Value.slice.injEq
abbrev qo := @List.set_cons_zero
abbrev qp := @List.set_cons_succ
abbrev qq := @List.take_of_length_le
abbrev qr := @Nat.pow_succ
abbrev qs := @Nat.le_trans
abbrev qu := @Nat.mod_lt
abbrev qw := @Nat.mul_comm
abbrev qx := @List.mem_cons
abbrev qy := @Nat.pow_le_pow_right
abbrev qz := @List.mem_map
abbrev Aq := @Option.some.inj
abbrev Bq := @Nat.mod_eq_of_lt
abbrev Cq := @List.getElem_cons_zero
abbrev Dq := @List.getElem_cons_succ
abbrev Gq := @List.getElem?_append_right
abbrev Hq := @List.length_append
abbrev Iq := @List.mem_iff_getElem
abbrev Jq := @List.getElem_toArray
abbrev Kq := @List.mem_nil_iff
abbrev Lq := @List.eq_nil_of_length_eq_zero
abbrev Mq := @List.getElem?_eq_none
abbrev Nq := @Nat.lt_or_ge
abbrev Oq := @List.mem_or_eq_of_mem_set
abbrev Pq := @List.getElem?_append_left
abbrev Qq := @Array.getD_eq_getD_getElem?
abbrev Rq := @Go.World.ownsRow_nil
abbrev Sq := @List.length_take
abbrev Tq := @List.ext_getElem
abbrev Uq := @Go.World.grownBy.refl
abbrev Vq := @Nat.dvd_of_mod_eq_zero
abbrev Wq := @List.mem_range
abbrev Xq := @Nat.eq_zero_or_pos
abbrev Yq := @Int.natCast_mul
abbrev Zq := @Nat.zero_add
abbrev qaa := @Nat.sub_self
abbrev qab := @Nat.mul_div_cancel_left
abbrev qac := @Go.RowKit.Below.grown
abbrev qad := @List.all_eq_true
abbrev qae := @List.take_succ_eq_append_getElem
abbrev qaf := @Nat.div_le_self
abbrev qag := @Nat.div_eq_of_lt
abbrev qah := @Nat.div_div_eq_div_mul
abbrev qai := @List.length_set
abbrev qaj := @List.range_succ
abbrev qak := @List.length_map
abbrev qal := @Int.natCast_add
abbrev qam := @List.map_append
abbrev qan := @List.length_cons
abbrev qao := @List.replicate_zero
abbrev qap := @List.append_assoc
abbrev qaq := @Nat.div_lt_iff_lt_mul
abbrev qar := @List.mem_append
abbrev qas := @List.append_nil
abbrev qat := @Nat.mul_mod_right
abbrev qau := @Array.getElem?_eq_getElem
abbrev qav := @List.mem_replicate
abbrev qaw := @Go.World.cell?_setCell_same
abbrev qax := @Nat.pow_lt_pow_right
abbrev qay := @Nat.add_assoc
abbrev qaz := @Nat.le_of_dvd
abbrev qba := @List.cons_append
abbrev qbb := @List.getElem?_eq_some_iff
abbrev qbc := @Go.World.cell?_setCell_other
abbrev qbd := @Nat.pow_pos
abbrev qbe := @Bool.or_eq_true
abbrev qbf := @List.getElem?_set_ne
abbrev qbg := @Nat.mul_le_mul_left
abbrev qbh := @List.map_congr_left
abbrev qbi := @Nat.pow_le_pow_left
abbrev qbj := @Go.Lib.cell_of_heap
abbrev qbk := @Nat.pow_one
abbrev qbl := @List.drop_eq_nil_of_le
abbrev qbm := @List.mem_singleton
abbrev qbn := @Nat.mod_add_div
abbrev qbo := @List.set_append_right
abbrev qbp := @List.nil_append
abbrev qbq := @Go.Lib.run_eql_slice_nil
abbrev qbr := @List.length_filter_le
abbrev qbs := @Nat.mod_mul_right_div_self
abbrev qbt := @Nat.mul_assoc
abbrev qbu := @List.mem_of_mem_take
abbrev qbv := @Nat.one_mul
abbrev qbw := @Nat.mul_one
abbrev qbx := @Nat.mul_le_mul
abbrev qby := @Nat.one_lt_pow
abbrev qbz := @Go.IntWalk.i64_in
abbrev qca := @Bool.and_eq_true
abbrev qcb := @List.getElem_mem
abbrev qcc := @Nat.zero_mod
abbrev qcd := @Nat.add_zero
abbrev qce := @Nat.mul_zero
abbrev qcf := @Int.natCast_emod
abbrev qcg := @Go.Addr.add_lit
abbrev qch := @List.getElem_set
abbrev qci := @Nat.min_eq_left
abbrev qcj := @List.getElem_range
abbrev qck := @Array.getElem?_eq_none
abbrev qcl := @Nat.add_mul
abbrev qcm := @List.getElem?_set_self
abbrev qcn := @List.contains_iff_mem
abbrev qco := @Nat.mul_succ
abbrev qcp := @List.map_map
abbrev qcq := @Nat.le_of_eq
abbrev qcr := @Option.bind_some
abbrev qcs := @Nat.dvd_mul_left
abbrev qct := @Nat.mul_le_mul_right
abbrev qcu := @List.getElem_map
abbrev qcv := @List.mem_cons_of_mem
abbrev qcw := @Array.replicate_succ
abbrev qcx := @Array.replicate_zero
abbrev qcy := @Nat.mul_add
abbrev qcz := @Go.RowKit.Below.trans
abbrev qda := @List.getD_cons_zero
abbrev qdb := @List.replicate_succ
abbrev qdc := @List.append_toArray
abbrev qdd := @Nat.mod_add_mod
abbrev qde := @Nat.add_mod_mod
abbrev qdf := @List.nodup_cons
theorem xQ {α : Sort _} (a : α) : ∃ x, x = a := ⟨a, rfl⟩
open Go.RowKit
theorem sK {p : Prop} (h : p) : Hid p := h
theorem Aa {w0 w1 w2 : World} (hb : Below w1.heap.size w1 w2) (h : Below w0.heap.size w0 w1) : Below w0.heap.size w0 w2 := h.trans (hb.mono h.size)
theorem Ac (w : World) (o : Obj) : Below w.heap.size w (w.alloc o) := (Below.refl _ _).alloc (Nat.le_refl _) _
theorem Ae {B : Nat} {a w : World} (h : Below B a w) (n : Nat) : Below B a (w.drewN n) := ⟨h.os, h.tape, h.output, h.size, h.block⟩
def Ah (v : Value) (w : World) (e : Ending) (w' : World) : Prop := e = .returned v ∧ Below w.heap.size w w'
def Ba (v : Value) (w : World) (e : Ending) (w' : World) : Prop := e = .returned v ∧ w = w'
end
section
open Go.RowKit
section
variable {P : Program} {ops : Array Oper} {Q : Exit -> Act -> WQ -> Prop} {a0 : Act} {vals : Nat -> Value}
def Cp (ops : Array Oper) (i : Nat) : NQ :=
 match ops[i]? with
 | some o => (o.after.toList.filter (Region.binds .any)).map (·.on)
 | none => []
def Dh (ops : Array Oper) (i : Nat) : Option Tmp := (ops[i]?).bind (·.dst)
def bW (ops : Array Oper) : Nat -> NQ -> NQ
 | 0, S => S
 | k + 1, S => bW ops k (if S.contains k then S ++ Cp ops k else S)
def qQ (ops : Array Oper) (i j : Nat) : Bool :=
 match ops[i]?, ops[j]? with
 | some oi, some oj => ((Cp ops j).contains i || oi.apart ops oj) && (oi.dst != oj.dst)
 | _, _ => false
def dstB (N : Nat) (x : Option Tmp) : Bool :=
 match x with
 | some d => decide (d < N)
 | none => false
def Gx (ops : Array Oper) (o : Oper) (x : Option Tmp) : Bool :=
 match x with
 | some d => (o.looksAt ops).contains d
 | none => false
theorem Fr {i e : Nat} {o : Oper} (ho : ops[i]? = some o) : e ∈ Cp ops i ↔ ∃ x ∈ o.after, Region.binds .any x = true ∧ x.on = e := by
 simp only [Cp, ho, qz, List.mem_filter, Array.mem_toList_iff]
 constructor
 ·rintro ⟨x, ⟨h1, h2⟩, h3⟩
  exact ⟨x, h1, h2, h3⟩
 ·rintro ⟨x, h1, h2, h3⟩
  exact ⟨x, ⟨h1, h2⟩, h3⟩
def fill (ops : Array Oper) (L : Nat -> Bool) (vals : Nat -> Value) (a0 : Act) : Nat -> Act
 | 0 => a0
 | k + 1 => if L k then (fill ops L vals a0 k).put (Dh ops k) (vals k) else fill ops L vals a0 k
theorem jM (a : Act) (x : Option Tmp) (v : Value) : (a.put x v).tmps.size = a.tmps.size := by
 cases x <;> simp [Act.put]
theorem Js (L : Nat -> Bool) (k : Nat) : (fill ops L vals a0 k).tmps.size = a0.tmps.size := by
 induction k with
 | zero => rfl
 | succ k ih =>
  simp only [fill]; split
  ·rw [jM, ih]
  ·exact ih
theorem Pr {L L' : Nat -> Bool} {vals' : Nat -> Value} (k : Nat) (hL : ∀ j, j < k -> L j = L' j) (hv : ∀ j, j < k -> L j = true -> vals j = vals' j) : fill ops L vals a0 k = fill ops L' vals' a0 k := by
 induction k with
 | zero => rfl
 | succ k ih =>
  have h1 := ih (fun j hj => hL j (by omega)) (fun j hj => hv j (by omega)); simp only [fill, h1, <- hL k (by omega)]
  cases hk : L k
  ·rfl
  ·rw [hv k (by omega) hk]
theorem Kg {a : Act} {x : Option Tmp} {v : Value} {t : Tmp} (h : x ≠ some t) : (a.put x v).tmps[t]? = a.tmps[t]? := by
 cases x with
 | none => rfl
 | some d =>
  have : d ≠ t := fun e => h (by rw [e])
  simp [Act.put, Array.getElem?_setIfInBounds_ne this]
theorem Yr {a a' : Act} {x : Option Tmp} {v : Value} {t : Tmp} (hs : a.tmps.size = a'.tmps.size) (h : a.tmps[t]? = a'.tmps[t]?) : (a.put x v).tmps[t]? = (a'.put x v).tmps[t]? := by
 cases x with
 | none => exact h
 | some d =>
  by_cases hd : d = t
  ·subst hd
   simp [Act.put, Array.getElem?_setIfInBounds, hs]
  ·simp [Act.put, Array.getElem?_setIfInBounds_ne hd, h]
theorem jP {L L' : Nat -> Bool} {t : Tmp} (k : Nat) (h : ∀ j, j < k -> L j ≠ L' j -> Dh ops j ≠ some t) : (fill ops L vals a0 k).tmps[t]? = (fill ops L' vals a0 k).tmps[t]? := by
 induction k with
 | zero => rfl
 | succ k ih =>
  have h1 := ih (fun j hj => h j (by omega)); simp only [fill]; have h2 := h k (by omega)
  cases hk : L k <;> cases hk' : L' k <;> simp only [if_true, if_false, Bool.false_eq_true]
  ·exact h1
  ·rw [Kg (h2 (by rw [hk, hk']; decide))]
   exact h1
  ·rw [Kg (h2 (by rw [hk, hk']; decide))]
   exact h1
  ·exact Yr (by rw [Js, Js]) h1
theorem mB {L : Nat -> Bool} {i : Nat} {v : Value} (hL : L i = false) (k : Nat) (hd : ∀ j, j < k -> j ≠ i -> ∀ d, Dh ops i = some d -> Dh ops j ≠ some d) :
  fill ops (fun j => L j || j == i) (fun j => if j = i then v else vals j) a0 k = if i < k then (fill ops L vals a0 k).put (Dh ops i) v else fill ops L vals a0 k := by
 induction k with
 | zero => simp [fill]
 | succ k ih =>
  simp only [fill, ih (fun j hj => hd j (by omega))]
  by_cases hk : k = i
  ·subst hk
   simp [hL]
  ·have e1 : (k == i) = false := by simpa using hk
   simp only [e1, Bool.or_false, if_neg hk]
   by_cases hik : i < k
   ·simp only [if_pos hik, if_pos (show i < k + 1 by omega)]
    split
    ·rw [Act.put_comm _ _ _ (fun d h1 => hd k (by omega) hk d h1)]
    ·rfl
   ·simp only [if_neg hik, if_neg (show ¬ i < k + 1 by omega)]
def Im (P : Program) (ops : Array Oper) (o : Oper) (a : Act) (w : WQ) (p : Value -> WQ -> Prop) : Prop :=
 ∀ K : Act -> WQ -> Prop, Shut (∀ v w', p v w' -> Below w.heap.size w w' -> K (a.put o.dst v) w') ->
  if Region.wanted o (yielded ops a.tmps) = true then Oper.wp P o a w K (fun _ _ _ => False) else K (a.put o.dst undef) w
theorem Dt {a : Act} {d : Tmp} {v : Value} (h : d < a.tmps.size) : (a.put (some d) v).eval (.tmp d) = v := by
 simp [Act.put, Act.eval, h]
theorem Im.move {i : Nat} {o : Oper} {a a' : Act} {w : WQ} {p : Value -> WQ -> Prop} {d : Tmp} (hd : o.dst = some d) (h1 : d < a.tmps.size) (hs : ∀ cs b, o.op ≠ .select cs b)
  (hop : ∀ t ∈ o.looksAt ops, a.tmps[t]? = a'.tmps[t]?) (h : Im P ops o a w p) (hi : ops[i]? = some o) {K : Act -> WQ -> Prop} (hK : ∀ v w', p v w' -> Below w.heap.size w w' -> K (a'.put o.dst v) w') :
  wpOp P ops Q i K a' w := by
 have h' := h (fun a1 w1 => p (a1.eval (.tmp d)) w1 ∧ Below w.heap.size w w1 ∧ a1.defers = a.defers) (fun v w' hp hb => by
  rw [hd]; simp only [Dt h1]; exact ⟨hp, hb, rfl⟩)
 rw [hd] at hK
 have hw : Region.wanted o (yielded ops a.tmps) = Region.wanted o (yielded ops a'.tmps) := by
  unfold Region.wanted
  cases hg : o.guard with
  | none => rfl
  | some gw =>
   obtain ⟨g, j3⟩ := gw; have hy : yielded ops a.tmps g = yielded ops a'.tmps g := by
    unfold yielded
    cases ht : (ops[g]?).bind (·.dst) with
    | none => rfl
    | some t =>
     have := hop t (by simp [Oper.looksAt, hg, ht]); simp only [qcr, this]
   simp only [hy]
 have he : execOp a.eval o = execOp a'.eval o := execOp_congr o hs fun x hx => by
  cases x with
  | tmp t =>
   have := hop t (List.mem_append_left _ (List.mem_filterMap.2 ⟨.tmp t, by simpa using hx, rfl⟩)); simp only [Act.eval, Qq, this]
  | const v => rfl
  | global g => rfl
  | func f => rfl
 rw [hw] at h'
 unfold wpOp
 simp only [hi]
 split
 ·rename_i hwt
  rw [if_pos hwt] at h'
  left
  unfold Oper.wp at h' ⊢; rw [he] at h'; generalize (execOp a'.eval o).run P w = r at h' ⊢
  cases r with
  | ok n w' =>
   cases n <;> simp only [Oper.upon] at h' ⊢
   case value u =>
    rw [hd, Dt h1] at h'; rw [hd]; exact hK _ _ h'.1 h'.2.1
   case skip =>
    rw [hd, Dt h1] at h'; rw [hd]; exact hK _ _ h'.1 h'.2.1
   case defer d' =>
    rw [hd] at h'; have h9 : d' :: a.defers = a.defers := h'.2.2; exact absurd (congrArg List.length h9) (by simp)
   case enter f args =>
    refine Calls.mono h' fun e w'' q0 => ?_
    cases e with
    | returned u =>
     simp only [hd, Dt h1] at q0 ⊢; exact hK _ _ q0.1 q0.2.1
    | panicked c => exact q0.elim
    | outgrown => obtain ⟨_, _, h9⟩ := q0; exact h9.elim
   case row row args =>
    refine Rows.mono h' fun u w'' q0 => ?_
    rw [hd, Dt h1] at q0; rw [hd]; exact hK _ _ q0.1 q0.2.1
  | halt x w' =>
   cases x <;> simp only [Oper.upon] at h'
 ·rename_i hwt
  rw [if_neg hwt, hd, Dt h1] at h'; rw [hd]; exact hK _ _ h'.1 h'.2.1
def From (W w : WQ) : Prop := Below W.heap.size W w
theorem From.lasting {W : WQ} : ∀ w w', Below w.heap.size w w' -> From W w -> From W w' := fun _ _ hb h => Aa hb h
theorem From.refl (W : WQ) : From W W := bR
theorem From.drew {W w : WQ} (h : From W w) : From W w.drew := Below.drew h
inductive Rl | v (x : Value) | r (p : Value -> WQ -> Prop) (h : ∀ v w w', Below w.heap.size w w' -> p v w -> p v w')
def IsV (u : Value) (v : Value) (_ : WQ) : Prop := v = u
theorem IsV.lasting {u : Value} : ∀ v w w', Below w.heap.size w w' -> IsV u v w -> IsV u v w' := fun _ _ _ _ h => h
def Rl.p : Rl -> Value -> WQ -> Prop | .v x => IsV x | .r p _ => p
def Rl.val : Rl -> Value | .v x => x | .r _ _ => undef
theorem Rl.last : ∀ (r : Rl) v w w', Below w.heap.size w w' -> r.p v w -> r.p v w' | .v _ => IsV.lasting | .r _ h => h
def Rl.good (r : Rl) (v : Value) : Prop := ∀ x, r = .v x -> v = x
theorem Rl.good_of {r : Rl} {v : Value} {w : WQ} (h : r.p v w) : r.good v := fun x e => by subst e; exact h
theorem Rl.good_val (r : Rl) : r.good r.val := fun x e => by subst e; rfl
def Tab (P : Program) (ops : Array Oper) (Φ : WQ -> Prop) (Q : Exit -> Act -> WQ -> Prop) (tail : List Oper) : List Oper -> List Rl -> List (Option Tmp × (Value -> WQ -> Prop) × Value) -> Act -> Prop
 | [], _, c0, a => ∀ w, Φ w -> (∀ d ∈ c0, d.2.1 d.2.2 w) -> wpList P ops Q tail a w
 | _ :: _, [], _, _ => False
 | o :: l, .v x :: ps, c0, a => (∀ w, Φ w -> (∀ d ∈ c0, Gx ops o d.1 = true -> d.2.1 d.2.2 w) -> Im P ops o a w (IsV x)) ∧ Tab P ops Φ Q tail l ps c0 (a.put o.dst x)
 | o :: l, .r p _ :: ps, c0, a => (∀ w, Φ w -> (∀ d ∈ c0, Gx ops o d.1 = true -> d.2.1 d.2.2 w) -> Im P ops o a w p) ∧
   ∀ v, Tab P ops Φ Q tail l ps ((o.dst, p, v) :: c0) (a.put o.dst v)
theorem Tab.out {Φ : WQ -> Prop} {tail : List Oper} {PS : Nat -> Rl} (vals : Nat -> Value) (hv : ∀ j, (PS j).good (vals j)) : ∀ (l : List Oper) (ps : List Rl) (c0 : List (Option Tmp × (Value -> WQ -> Prop) × Value)) (k n : Nat),
  k + l.length = n -> (∀ j, j < l.length -> l[j]? = ops[k + j]?) -> (∀ j p, ps[j]? = some p -> PS (k + j) = p) -> (∀ d ∈ c0, ∃ j, j < k ∧ d = (Dh ops j, (PS j).p, vals j)) ->
  Tab P ops Φ Q tail l ps c0 (fill ops (fun _ => true) vals a0 k) ->
  (∀ i o, k <= i -> i < n -> ops[i]? = some o ->
   ∀ w, Φ w -> (∀ j, j < i -> Gx ops o (Dh ops j) = true -> (PS j).p (vals j) w) -> Im P ops o (fill ops (fun _ => true) vals a0 i) w (PS i).p) ∧
  ∀ w, Φ w -> (∀ j, j < n -> (PS j).p (vals j) w) -> wpList P ops Q tail (fill ops (fun _ => true) vals a0 n) w := by
 intro l
 induction l with
 | nil =>
  intro ps c0 k n hk _ _ hd h; have : k = n := by simpa using hk
  subst this; refine ⟨fun i o h1 h2 => by omega, fun w hw hp => h w hw fun d o0 => ?_⟩; obtain ⟨j, hj, rfl⟩ := hd d o0; exact hp j hj
 | cons o l ih =>
  intro ps c0 k n hk hl d2 hd h
  cases ps with
  | nil => exact h.elim
  | cons p ps =>
   have h0 : ops[k]? = some o := by simpa using (hl 0 (by simp)).symm
   have o1 : PS k = p := by simpa using d2 0 p rfl
   have v1 : Dh ops k = o.dst := by simp [Dh, h0]
   have r1 : ∀ w, Φ w -> (∀ d ∈ c0, Gx ops o d.1 = true -> d.2.1 d.2.2 w) -> Im P ops o (fill ops (fun _ => true) vals a0 k) w p.p := by
    cases p with
    | v x => exact h.1
    | r p hp => exact h.1
   have v2 : ∃ c1, (∀ d ∈ c1, ∃ j, j < k + 1 ∧ d = (Dh ops j, (PS j).p, vals j)) ∧ Tab P ops Φ Q tail l ps c1 (fill ops (fun _ => true) vals a0 (k + 1)) := by
    simp only [fill, if_true, v1]
    cases p with
    | v x =>
     refine ⟨c0, fun d o0 => ?_, ?_⟩
     ·obtain ⟨j, hj, e⟩ := hd d o0
      exact ⟨j, by omega, e⟩
     ·rw [hv k x o1]; exact h.2
    | r p hp =>
     refine ⟨(o.dst, p, vals k) :: c0, fun d o0 => ?_, h.2 (vals k)⟩
     rcases qx.1 o0 with rfl | o0
     ·exact ⟨k, by omega, by rw [v1, o1]; rfl⟩
     ·obtain ⟨j, hj, e⟩ := hd d o0
      exact ⟨j, by omega, e⟩
   obtain ⟨c1, w0, j1⟩ := v2; have h4 := ih ps c1 (k + 1) n (by simp at hk; omega) (fun j hj => by
     have := hl (j + 1) (by simp; omega); simpa [qay, Nat.add_comm 1 j] using this)
    (fun j p' hj => by
     have := d2 (j + 1) p' (by simpa using hj)
     rwa [show k + 1 + j = k + (j + 1) by omega]) w0 j1
   refine ⟨fun i o' hi r0 z1 => ?_, h4.2⟩
   by_cases hik : i = k
   ·subst hik
    obtain rfl : o' = o := Aq (z1.symm.trans h0); rw [o1]; refine fun w hw k2 => r1 w hw fun d o0 f1 => ?_
    obtain ⟨j, hj, rfl⟩ := hd d o0; exact k2 j hj f1
   ·exact h4.1 i o' (by omega) r0 z1
theorem Ln {L : Nat -> Bool} (hc : ∀ j, L j = true -> ∀ e ∈ Cp ops j, L e = true) : ∀ (k : Nat) (S : NQ), (∀ s ∈ S, L s = true) -> ∀ s ∈ bW ops k S, L s = true
 | 0, _, h => h
 | k + 1, S, h => by
  refine Ln hc k _ fun s hs => ?_
  split at hs
  ·rename_i hk
   rcases qar.1 hs with h1 | h1
   ·exact h s h1
   ·exact hc k (h k (by simpa using hk)) s h1
  ·exact h s hs
def Dz (L : Nat -> Bool) : Nat -> Nat
 | 0 => 0
 | n + 1 => Dz L n + (if L n then 0 else 1)
theorem Ib {L : Nat -> Bool} : ∀ {n : Nat}, Dz L n = 0 -> ∀ j, j < n -> L j = true
 | 0, _, j, hj => by omega
 | n + 1, h, j, hj => by
  simp only [Dz] at h
  by_cases hjn : j = n
  ·subst hjn
   cases hL : L j
   ·simp [hL] at h
   ·rfl
  ·exact Ib (n := n) (by omega) j (by omega)
theorem Nc {L : Nat -> Bool} {i : Nat} (hL : L i = false) : ∀ n, Dz (fun j => L j || j == i) n = Dz L n - (if i < n then 1 else 0) ∧ (i < n -> 1 <= Dz L n)
 | 0 => by simp [Dz]
 | n + 1 => by
  obtain ⟨h1, h2⟩ := Nc hL n; simp only [Dz]
  by_cases hn : n = i
  ·subst hn
   simp [hL] at h1 ⊢; exact h1
  ·have e1 : (n == i) = false := by simpa using hn
   simp only [e1, Bool.or_false]
   by_cases hi : i < n
   ·have h3 := h2 hi
    simp only [if_pos hi, if_pos (show i < n + 1 by omega)] at h1 ⊢; rw [h1]; exact ⟨by omega, fun _ => by omega⟩
   ·simp only [if_neg hi, if_neg (show ¬ i < n + 1 by omega)] at h1 ⊢
    rw [h1]; exact ⟨by omega, fun h => by omega⟩
theorem Iu {L : Nat -> Bool} : ∀ {n : Nat}, Dz L n ≠ 0 -> ∃ j, j < n ∧ L j = false ∧ ∀ i, i < j -> L i = true
 | 0, h => absurd rfl h
 | n + 1, h => by
  by_cases hm : Dz L n = 0
  ·refine ⟨n, by omega, ?_, fun i hi => Ib hm i hi⟩
   simp only [Dz, hm] at h
   cases hL : L n
   ·rfl
   ·simp [hL] at h
  ·obtain ⟨j, h1, h2, h3⟩ := Iu hm
   exact ⟨j, by omega, h2, h3⟩
def qM (ops : Array Oper) (n j0 k0 : Nat) (d0 : Tmp) : Bool :=
 decide (k0 < j0) && decide (j0 < n) && (Dh ops k0 == some d0) && (Cp ops j0).contains k0 &&
  ((List.range ops.size).all fun k => decide (k < n) || match ops[j0]?, ops[k]? with | some oj, some ok => (Cp ops k).contains j0 || oj.apart ops ok | _, _ => false)
theorem Yo {x y : Oper} (h : x.apart ops y = true) (x0 : x.dst ≠ y.dst) : y.apart ops x = true := by
 obtain ⟨h1, _, h3⟩ := Oper.apart_spec h
 unfold Oper.apart
 rw [qca]
 constructor
 ·cases hy : y.dst with
  | none => rfl
  | some d =>
   have a1 := h3 d hy; have a2 : x.dst ≠ some d := fun e => x0 (by rw [e, hy])
   simp [a1, a2]
 ·cases hx : x.dst with
  | none => rfl
  | some d =>
   have a1 := h1 d hx; simp [a1]
theorem aZ {L : Nat -> Bool} {k0 : Nat} {d0 : Tmp} (hd : Dh ops k0 = some d0) (hL : L k0 = true) (hs : d0 < a0.tmps.size) : ∀ n, k0 < n -> (∀ j, j < n -> j ≠ k0 -> Dh ops j ≠ some d0) -> (fill ops L vals a0 n).tmps[d0]? = some (vals k0)
 | 0, h, _ => by omega
 | n + 1, h, hdist => by
  simp only [fill]
  by_cases hn : n = k0
  ·subst hn
   rw [if_pos hL, hd]; simp [Act.put, Js, hs]
  ·have ih := aZ (L := L) hd hL hs n (by omega) (fun j hj => hdist j (by omega))
   split
   ·rw [Kg (hdist n (by omega) hn)]
    exact ih
   ·exact ih
def Mh (ops : Array Oper) (n N : Nat) (LT : List (Nat × Nat × Tmp)) : Bool :=
 Region.noSelect ops && decide (n <= ops.size) && ((List.range n).all fun j => dstB N (Dh ops j) && ((Cp ops j).all fun e => decide (e < j)) && ((List.range j).all fun i => qQ ops i j)) &&
  ((List.range ops.size).all fun j => decide (j < n) || ((List.range n).all fun i => LT.any (fun x => decide (i = x.1)) || (bW ops j (Cp ops j)).contains i))
def Xy (ops : Array Oper) (n N : Nat) (LT : List (Nat × Nat × Tmp)) : Bool := LT.all fun x => qM ops n x.1 x.2.1 x.2.2 && decide (x.2.2 < N)
theorem Nl {n N : Nat} {LT : List (Nat × Nat × Tmp)} (h : Mh ops n N LT = true) : Region.noSelect ops = true ∧ n <= ops.size ∧
  (∀ j, j < n -> (∃ d, Dh ops j = some d ∧ d < N) ∧ (∀ e ∈ Cp ops j, e < j) ∧ ∀ i, i < j -> ∃ oi oj, ops[i]? = some oi ∧ ops[j]? = some oj ∧ (i ∈ Cp ops j ∨ oi.apart ops oj = true) ∧ oi.dst ≠ oj.dst) ∧
  (∀ j, n <= j -> j < ops.size -> ∀ i, i < n -> (∀ x ∈ LT, i ≠ x.1) -> i ∈ bW ops j (Cp ops j)) := by
 simp only [Mh, List.any_eq_true, qca, decide_eq_true_eq, qad, Wq, qbe, qcn] at h
 obtain ⟨⟨⟨h1, h2⟩, h3⟩, h4⟩ := h
 refine ⟨h1, h2, fun j hj => ?_, fun j hj t0 i hi x0 => ?_⟩
 ·obtain ⟨⟨h5, h6⟩, h7⟩ := h3 j hj
  refine ⟨?_, h6, fun i hi => ?_⟩
  ·cases hd : Dh ops j with
   | none => rw [hd] at h5; cases h5
   | some d => rw [hd] at h5; exact ⟨d, rfl, by simpa [dstB] using h5⟩
  ·have := h7 i hi
   unfold qQ at this
   cases f0 : ops[i]? with
   | none => simp [f0] at this
   | some oi =>
    cases e0 : ops[j]? with
    | none => simp [f0, e0] at this
    | some oj =>
     simp only [f0, e0, qca, qbe, qcn, bne_iff_ne, ne_eq] at this; exact ⟨oi, oj, rfl, rfl, this.1, this.2⟩
 ·rcases h4 j t0 with h5 | h5
  ·omega
  ·rcases h5 i hi with h6 | h6
   ·obtain ⟨x, hx, e⟩ := h6
    exact absurd e (x0 x hx)
   ·exact h6
theorem qE {Φ : WQ -> Prop} {n N : Nat} {LT : List (Nat × Nat × Tmp)} {PS : Nat -> Rl} (hB : Mh ops n N LT = true) (hLate : Xy ops n N LT = true) (hN : a0.tmps.size = N)
  (hΦ : ∀ w w', Below w.heap.size w w' -> Φ w -> Φ w')
  (r1 : ∀ vals, (∀ j, (PS j).good (vals j)) -> ∀ i o, i < n -> ops[i]? = some o ->
   ∀ w, Φ w -> (∀ j, j < i -> Gx ops o (Dh ops j) = true -> (PS j).p (vals j) w) -> Im P ops o (fill ops (fun _ => true) vals a0 i) w (PS i).p)
  (hpure : ∀ x ∈ LT, ∀ (a : Act) (o : Oper) (v : Value) w, ops[x.1]? = some o -> Φ w -> (PS x.2.1).p v w -> a.eval (.tmp x.2.2) = v -> ∃ u, Yields P ops o u a ∧ (PS x.1).p u w)
  (hQ : LT = [] ∨ ∀ c a d v w, Q (.panic c) (a.put d v) w -> Q (.panic c) a w)
  (hend : ∀ (vals : Nat -> Value), (∀ j, (PS j).good (vals j)) -> ∀ (b0 : Array Bool) w, b0.size = ops.size -> (∀ j, j < ops.size -> b0.getD j true = decide (j < n)) -> Φ w -> (∀ j, j < n -> (PS j).p (vals j) w) -> wpAny P .any ops Q (ops.size - n) b0 (fill ops (fun _ => true) vals a0 n) w) :
  ∀ (m : Nat) (b0 : Array Bool) (vals : Nat -> Value) (w : WQ), (∀ j, (PS j).good (vals j)) -> Dz (fun j => b0.getD j true) n = m -> b0.size = ops.size -> (∀ j, n <= j -> j < ops.size -> b0.getD j true = false) ->
   (∀ j, j < n -> b0.getD j true = true -> ∀ e ∈ Cp ops j, b0.getD e true = true) -> Φ w -> (∀ j, j < n -> b0.getD j true = true -> (PS j).p (vals j) w) ->
   wpAny P .any ops Q (m + (ops.size - n)) b0 (fill ops (fun j => b0.getD j true) vals a0 n) w := by
 obtain ⟨s1, a3, l0, i2⟩ := Nl hB
 intro m
 induction m with
 | zero =>
  intro b0 vals w hg hm v0 ht hc hw hp; have l1 := Ib hm; rw [Zq, Pr (L' := fun _ => true) (vals' := vals) n (fun j hj => l1 j hj) (fun _ _ _ => rfl)]; refine hend vals hg b0 w v0 (fun j hj => ?_) hw (fun j hj => hp j hj (l1 j hj))
  by_cases hjn : j < n
  ·rw [l1 j hjn]; simp [hjn]
  ·rw [ht j (by omega) hj]; simp [hjn]
 | succ m ih =>
  intro b0 vals w hg hm v0 ht hc hw hp; rw [show m + 1 + (ops.size - n) = m + (ops.size - n) + 1 by omega]; have f2 : ∀ e, e < ops.size -> b0.getD e false = b0.getD e true := fun e he => by
   simp [Qq, qau (show e < b0.size by omega)]
  have g2 : ∀ i o v w', i < n -> ops[i]? = some o -> b0.getD i true = false -> (∀ e ∈ Cp ops i, b0.getD e true = true) -> Below w.heap.size w w' -> (PS i).p v w' -> wpAny P .any ops Q (m + (ops.size - n)) (b0.setIfInBounds i true) ((fill ops (fun j => b0.getD j true) vals a0 n).put o.dst v) w' := by
   intro i o v w' r0 ho n0 m0 d1 i1; obtain ⟨⟨d, hd, u1⟩, he, q1⟩ := l0 i r0; have n1 : o.dst = some d := by simpa [Dh, ho] using hd
   have e2 : ∀ j, (b0.setIfInBounds i true).getD j true = (b0.getD j true || j == i) := fun j => by
    by_cases i0 : j = i
    ·subst i0
     simp [Qq, show j < b0.size by omega]
    ·rw [Go.getD_set_ne true (Ne.symm i0)]
     simp [i0]
   have e3 : (fun j => (b0.setIfInBounds i true).getD j true) = fun j => b0.getD j true || j == i := funext e2
   have x1 := ih (b0.setIfInBounds i true) (fun j => if j = i then v else vals j) w' (fun j => (Classical.em (j = i)).elim (fun e => by subst e; simp only [if_true]; exact Rl.good_of i1) (fun e => by simp only [if_neg e]; exact hg j)) (by rw [e3]; have := (Nc (L := fun j => b0.getD j true) (i := i) n0 n).1; rw [if_pos r0] at this; omega) (by simp [v0])
    (fun j hj t0 => by rw [e2, ht j hj t0]; simp; omega)
    (fun j hj hL e y0 => by
     rw [e2] at hL ⊢
     by_cases i0 : j = i
     ·subst i0
      rw [m0 e y0]; rfl
     ·have : b0.getD j true = true := by simpa [i0] using hL
      rw [hc j hj this e y0]; rfl)
    (hΦ w w' d1 hw)
    (fun j hj hL => by
     by_cases i0 : j = i
     ·subst i0
      simpa using i1
     ·simp only [if_neg i0]
      rw [e2] at hL; exact (PS j).last _ w w' d1 (hp j hj (by simpa [i0] using hL)))
   rw [e3, mB (L := fun j => b0.getD j true) n0 n (fun j hj i0 d' w0 g0 => ?_), if_pos r0, hd, <- n1] at x1
   ·exact x1
   ·rcases Nq i j with h | h
    ·obtain ⟨oi, oj, f0, e0, _, h2⟩ := (l0 j hj).2.2 i h
     simp only [Dh, f0, e0, qcr] at w0 g0; exact h2 (w0.trans g0.symm)
    ·obtain ⟨oj, oi, e0, f0, _, h2⟩ := q1 j (by omega)
     simp only [Dh, f0, e0, qcr] at w0 g0; exact h2 (g0.trans w0.symm)
  by_cases hready : ∃ x ∈ LT, b0.getD x.1 true = false ∧ ∀ e ∈ Cp ops x.1, b0.getD e true = true
  ·obtain ⟨⟨j0, k0, d0⟩, k1, n0, m0⟩ := hready
   have t1 := (qad.1 hLate) _ k1; simp only [qM, qca, decide_eq_true_eq, beq_iff_eq, qcn, qad, Wq, qbe] at t1; obtain ⟨⟨⟨⟨⟨g3, m1⟩, z0⟩, s2⟩, t2⟩, j2⟩ := t1; simp only at n0 m0; obtain ⟨o, ho⟩ : ∃ o, ops[j0]? = some o := ⟨_, qau (show j0 < ops.size by omega)⟩
   have hk := m0 k0 s2; obtain ⟨⟨dk, c3, _⟩, _, x2⟩ := l0 k0 (by omega); have m2 : (fill ops (fun j => b0.getD j true) vals a0 n).eval (.tmp d0) = vals k0 := by
    have := aZ (L := fun j => b0.getD j true) (vals := vals) (a0 := a0) z0 hk (by rw [hN]; exact j2) n (by omega) (fun j hj d3 g0 => by
     rcases Nq j k0 with h | h
     ·obtain ⟨oi, oj, f0, e0, _, h2⟩ := x2 j h
      simp only [Dh, f0, e0, qcr] at g0 z0; exact h2 (g0.trans z0.symm)
     ·obtain ⟨oi, oj, f0, e0, _, h2⟩ := (l0 j hj).2.2 k0 (by omega)
      simp only [Dh, f0, e0, qcr] at g0 z0; exact h2 (z0.trans g0.symm))
    show (fill ops (fun j => b0.getD j true) vals a0 n).tmps.getD d0 undef = vals k0; rw [Qq, this]; rfl
   obtain ⟨u, hy, y2⟩ := hpure _ k1 _ o (vals k0) w ho hw (hp k0 (by omega) hk) m2; refine wpAny_first ho (Region.noSelect_spec s1) (fun c a w => (hQ.resolve_left (fun e => by rw [e] at k1; cases k1)) c a _ _ w) _ b0 _ w (fun k ok b1 f3 r2 w2 => ?_) (mem_ready.2 ⟨n0, o, ho, fun e he hb => ?_⟩) hy (g2 j0 o u w m1 ho n0 m0 (bR) y2)
   ·have p2 : k < ops.size := (qg.1 b1).1
    have y1 : j0 ∉ Cp ops k := fun h => by
     obtain ⟨x, hx, hb, e⟩ := (Fr b1).1 h; exact w2 x hx hb e
    by_cases hkn : k < n
    ·rcases Nq k j0 with h | h
     ·obtain ⟨oi, oj, f0, e0, h1, h2⟩ := (l0 j0 m1).2.2 k h
      obtain rfl : oj = o := Aq (e0.symm.trans ho); obtain rfl : oi = ok := Aq (f0.symm.trans b1)
      rcases h1 with h1 | h1
      ·have := m0 k h1
       rw [r2] at this
       cases this
      ·exact Yo h1 h2
     ·obtain ⟨oi, oj, f0, e0, h1, h2⟩ := (l0 k hkn).2.2 j0 (by omega)
      obtain rfl : oi = o := Aq (f0.symm.trans ho); obtain rfl : oj = ok := Aq (e0.symm.trans b1)
      rcases h1 with h1 | h1
      ·exact absurd h1 y1
      ·exact h1
    ·have := t2 k p2
     simp only [hkn, false_or, ho, b1, qbe, qcn] at this
     rcases this with h1 | h1
     ·exact absurd h1 y1
     ·exact h1
   ·have g1 := (l0 j0 m1).2.1 e.on ((Fr ho).2 ⟨e, he, hb, rfl⟩)
    rw [f2 e.on (by omega)]; exact m0 e.on ((Fr ho).2 ⟨e, he, hb, rfl⟩)
  refine ⟨fun hr => ?_, fun i hi => ?_⟩
  ·obtain ⟨j, hj, h1, h2⟩ := Iu (L := fun j => b0.getD j true) (n := n) (by omega)
   obtain ⟨oj, e0⟩ : ∃ o, ops[j]? = some o := ⟨_, qau (show j < ops.size by omega)⟩
   have : j ∈ Region.ready .any ops b0 := mem_ready.2 ⟨h1, oj, e0, fun e he hb => by
    have g1 := (l0 j hj).2.1 e.on ((Fr e0).2 ⟨e, he, hb, rfl⟩); rw [f2 e.on (by omega)]; exact h2 e.on g1⟩
   rw [hr] at this
   cases this
  ·obtain ⟨n0, o, ho, l2⟩ := mem_ready.1 hi
   have n2 : i < ops.size := (qg.1 ho).1; have m0 : ∀ e ∈ Cp ops i, b0.getD e true = true := fun e he => by
    obtain ⟨x, hx, hb, rfl⟩ := (Fr ho).1 he; have h1 := l2 x hx hb; simp only [Qq] at h1 ⊢
    cases hg : b0[x.on]? with
    | none => rfl
    | some b => rw [hg] at h1; exact h1
   by_cases r0 : i < n
   ·obtain ⟨⟨d, hd, u1⟩, he, q1⟩ := l0 i r0
    have n1 : o.dst = some d := by simpa [Dh, ho] using hd
    have z2 := r1 vals hg i o r0 ho; have f1 : ∀ j, j < i -> Gx ops o (Dh ops j) = true -> b0.getD j true = true := fun j hj hl => by
     obtain ⟨oj, oi, e0, f0, h1, h2⟩ := q1 j hj; obtain rfl : oi = o := Aq (f0.symm.trans ho)
     rcases h1 with h1 | h1
     ·exact m0 j h1
     ·obtain ⟨h3, _, _⟩ := Oper.apart_spec h1
      cases g0 : oj.dst with
      | none => simp [Gx, Dh, e0, g0] at hl
      | some dj =>
       simp [Gx, Dh, e0, g0] at hl; exact absurd hl (h3 dj g0)
    have hM := z2 w hw (fun j hj hl => hp j (by omega) (f1 j hj hl)); refine Im.move (a := fill ops (fun _ => true) vals a0 i) n1 (by rw [Js, hN]; exact u1) (Region.noSelect_spec s1 i o · · ho) (fun t j1 => ?_) hM ho (fun v w' i1 d1 => ?_)
    ·have e1 : fill ops (fun _ => true) vals a0 i = fill ops (fun j => decide (j < i)) vals a0 n := by
      have h1 : ∀ k, i + k <= n -> fill ops (fun j => decide (j < i)) vals a0 (i + k) = fill ops (fun _ => true) vals a0 i := by
       intro k
       induction k with
       | zero => intro _; exact Pr _ (fun j hj => by simpa using hj) (fun _ _ _ => rfl)
       | succ k ihk =>
        intro hk; rw [<- qay]; simp only [fill]; rw [if_neg (by simp), ihk (by omega)]
      have := h1 (n - i) (by omega); rw [show i + (n - i) = n by omega] at this; exact this.symm
     rw [e1]; refine jP n fun j hj x0 g0 => ?_
     by_cases i0 : j < i
     ·have g1 := f1 j i0 (by simp [Gx, g0, j1])
      simp [i0, g1] at x0
     ·have hL : b0.getD j true = true := by
       cases hL : b0.getD j true
       ·simp [i0, hL] at x0
       ·rfl
      have o2 : i < j := by
       rcases Nq i j with h | h
       ·exact h
       ·have : j = i := by omega
        rw [this, n0] at hL
        cases hL
      obtain ⟨oi, oj, f0, e0, h1, h2⟩ := (l0 j hj).2.2 i o2; obtain rfl : oi = o := Aq (f0.symm.trans ho)
      rcases h1 with h1 | h1
      ·have := hc j hj hL i h1
       rw [n0] at this
       cases this
      ·obtain ⟨_, _, h3⟩ := Oper.apart_spec h1
       exact h3 t (by simpa [Dh, e0] using g0) j1
    ·exact g2 i o v w' r0 ho n0 m0 d1 i1
   ·have hL := Ln (ops := ops) (L := fun j => b0.getD j true) (fun j hj e y0 => ?_) i (Cp ops i) m0
    ·obtain ⟨j, hj, h1, h2⟩ := Iu (L := fun j => b0.getD j true) (n := n) (by omega)
     by_cases hjj : ∃ x ∈ LT, j = x.1
     ·obtain ⟨x, hx, e⟩ := hjj
      subst e; exact absurd ⟨x, hx, h1, fun e he => h2 e ((l0 x.1 hj).2.1 e he)⟩ hready
     ·have := hL j (i2 i (by omega) n2 j hj (fun x hx e => hjj ⟨x, hx, e⟩))
      rw [h1] at this
      cases this
    ·by_cases hjn : j < n
     ·exact hc j hjn hj e y0
     ·by_cases t0 : j < ops.size
      ·rw [ht j (by omega) t0] at hj
       cases hj
      ·simp [Cp, qck (show ops.size <= j by omega)] at y0
theorem gT {L : Nat -> Bool} (k : Nat) (h : ∀ j, j < k -> L j = false) : fill ops L vals a0 k = a0 := by
 induction k with
 | zero => rfl
 | succ k ih =>
  simp only [fill, h k (by omega), Bool.false_eq_true, if_false]; exact ih (fun j hj => h j (by omega))
theorem Nk {L : Nat -> Bool} : ∀ n, (∀ j, j < n -> L j = false) -> Dz L n = n
 | 0, _ => rfl
 | n + 1, h => by simp [Dz, Nk n (fun j hj => h j (by omega)), h n (by omega)]
def Ho (n m : Nat) : Array Bool := (List.replicate n true ++ List.replicate m false).toArray
theorem jE {id : Nat} {l : List Oper} {w : WQ} (n N : Nat) (LT : List (Nat × Nat × Tmp)) (ps : List Rl) (Φ : WQ -> Prop) (hm : P.follows .mixedOrders = true) (hB : Mh l.toArray n N LT = true) (hLate : Xy l.toArray n N LT = true)
  (hS : Region.seqB .any l.toArray (l.length - n) n (Ho n (l.length - n)) = true) (hN : a0.tmps.size = N) (hΦ : ∀ w w', Below w.heap.size w w' -> Φ w -> Φ w') (h0 : Φ w.drew)
  (hpure : ∀ x ∈ LT, ∀ (a : Act) (o : Oper) (v : Value) w, l[x.1]? = some o -> Φ w -> (ps.getD x.2.1 (.v undef)).p v w -> a.eval (.tmp x.2.2) = v -> ∃ u, Yields P l.toArray o u a ∧ (ps.getD x.1 (.v undef)).p u w)
  (hQ : LT = [] ∨ ∀ c a d v w, Q (.panic c) (a.put d v) w -> Q (.panic c) a w)
  (h : Tab P l.toArray Φ Q (l.drop n) (l.take n) ps [] a0) : (Code.region id l.toArray true).wp P Q a0 w := by
 obtain ⟨_, hn, _, _⟩ := Nl hB
 have i3 : n <= l.length := by simpa using hn
 have c2 := fun vals hg => Tab.out (ops := l.toArray) (a0 := a0) (PS := fun i => ps.getD i (.v undef)) vals hg (l.take n) ps [] 0 n (by simp; omega) (fun j hj => by
   simp at hj; simp [show j < n by omega])
  (fun j p hj => by simp [qa, hj]) (fun d hd => by cases hd) h
 refine wp_region_any hm ?_
 have H := qE (ops := l.toArray) (P := P) (Q := Q) (a0 := a0) (Φ := Φ) (n := n) (N := N) (PS := fun i => ps.getD i (.v undef)) hB hLate hN hΦ
  (fun vals hg i o hi ho => (c2 vals hg).1 i o (by omega) hi ho)
  (fun x hx a o v w ho => hpure x hx a o v w (by simpa using ho)) hQ
  (fun vals hg b0 w' v0 hl hw hp => by
   have u2 : b0 = Ho n (l.length - n) := by
    refine Array.ext_getElem? fun j => ?_
    by_cases hj : j < l.length
    ·have h1 := hl j (by simpa using hj)
     rw [Qq, qau (show j < b0.size by simpa [v0] using hj)] at h1; rw [qau (show j < b0.size by simpa [v0] using hj)]; simp only [Option.getD_some] at h1; rw [h1]; simp only [Ho, List.getElem?_toArray, List.getElem?_append, List.length_replicate, List.getElem?_replicate]
     by_cases hjn : j < n
     ·simp [hjn]
     ·simp [hjn, show j - n < l.length - n by omega]
    ·rw [qck (by simp [v0]; omega), Ho, List.getElem?_toArray, Mq (by simp; omega)]
   have := wpAny_of_seq (md := .any) (P := P) (ops := l.toArray) (Q' := Q) (l.drop n) n b0 (fill l.toArray (fun _ => true) vals a0 n) w' (fun j => by simp [List.getElem?_drop]) (by rw [u2]; simpa using hS) ((c2 vals hg).2 w' hw hp); simpa using this)
  n (Array.replicate l.length false) (fun i => (ps.getD i (.v undef)).val) w.drew (fun _ => Rl.good_val _)
  (Nk n fun j hj => by simp [Qq, show j < l.length by omega]) (by simp)
  (fun j hj t0 => by simp at t0; simp [Qq, t0])
  (fun j hj hL => by simp [Qq, show j < l.length by omega] at hL) h0
  (fun j hj hL => by simp [Qq, show j < l.length by omega] at hL)
 rw [gT n (fun j hj => by simp [Qq, show j < l.length by omega])] at H
 have e : n + (l.toArray.size - n) = l.toArray.size := by simp; omega
 rw [e] at H
 simpa using H
theorem wpT {id : Nat} {l : List Oper} {w : WQ} (n N : Nat) (ps : List Rl) (W : WQ) (hm : P.follows .mixedOrders = true) (hB : Mh l.toArray n N [] = true)
  (hS : Region.seqB .any l.toArray (l.length - n) n (Ho n (l.length - n)) = true) (hN : a0.tmps.size = N) (h0 : From W w.drew)
  (h : Tab P l.toArray (From W) Q (l.drop n) (l.take n) ps [] a0) : (Code.region id l.toArray true).wp P Q a0 w :=
 jE n N [] ps (From W) hm hB rfl hS hN From.lasting h0 (fun x hx => by cases hx) (.inl rfl) h
theorem wpL {id : Nat} {l : List Oper} {w : WQ} (n N : Nat) (LT : List (Nat × Nat × Tmp)) (ps : List Rl) (W : WQ) (hm : P.follows .mixedOrders = true) (hB : Mh l.toArray n N LT = true) (hLate : Xy l.toArray n N LT = true)
  (hS : Region.seqB .any l.toArray (l.length - n) n (Ho n (l.length - n)) = true) (hN : a0.tmps.size = N) (h0 : From W w.drew)
  (hpure : ∀ x ∈ LT, ∀ (a : Act) (o : Oper) (v : Value) w, l[x.1]? = some o -> From W w -> (ps.getD x.2.1 (.v undef)).p v w -> a.eval (.tmp x.2.2) = v -> ∃ u, Yields P l.toArray o u a ∧ (ps.getD x.1 (.v undef)).p u w)
  (hQ : ∀ c a d v w, Q (.panic c) (a.put d v) w -> Q (.panic c) a w)
  (h : Tab P l.toArray (From W) Q (l.drop n) (l.take n) ps [] a0) : (Code.region id l.toArray true).wp P Q a0 w :=
 jE n N LT ps (From W) hm hB hLate hS hN From.lasting h0 hpure (.inr hQ) h
section
variable {Φ : WQ -> Prop} {tail l : List Oper} {o : Oper} {ps : List Rl} {c0 : List (Option Tmp × (Value -> WQ -> Prop) × Value)} {a : Act}
theorem Tab.v {x : Value} (h2 : ∀ w, Φ w -> (∀ d ∈ c0, Gx ops o d.1 = true -> d.2.1 d.2.2 w) -> Im P ops o a w (IsV x))
  (h3 : Tab P ops Φ Q tail l ps c0 (a.put o.dst x)) : Tab P ops Φ Q tail (o :: l) (.v x :: ps) c0 a := ⟨h2, h3⟩
theorem Tab.z {x : Value} (h2 : ∀ w, Φ w -> Im P ops o a w (IsV x))
  (h3 : Tab P ops Φ Q tail l ps c0 (a.put o.dst x)) : Tab P ops Φ Q tail (o :: l) (.v x :: ps) c0 a := ⟨fun w hw _ => h2 w hw, h3⟩
theorem Tab.r {p : Value -> WQ -> Prop} {hp : ∀ v w w', Below w.heap.size w w' -> p v w -> p v w'} (h2 : ∀ w, Φ w -> (∀ d ∈ c0, Gx ops o d.1 = true -> d.2.1 d.2.2 w) -> Im P ops o a w p)
  (h3 : ∀ v, Tab P ops Φ Q tail l ps ((o.dst, p, v) :: c0) (a.put o.dst v)) : Tab P ops Φ Q tail (o :: l) (.r p hp :: ps) c0 a := ⟨h2, h3⟩
theorem Tab.nil (h : ∀ w, Φ w -> (∀ d ∈ c0, d.2.1 d.2.2 w) -> wpList P ops Q tail a w) : Tab P ops Φ Q tail [] ps c0 a := h
end
theorem Kz {x : Value} {K : Act -> WQ -> Prop} {a : Act} {d : Option Tmp} {w : WQ} (h : Shut (∀ v w', IsV x v w' -> Below w.heap.size w w' -> K (a.put d v) w')) : K (a.put d x) w := h.out _ _ rfl (bR)
theorem Pt : (∀ (a : Act) d v, a.put (some d) v = { a with tmps := a.tmps.setIfInBounds d v }) ∧ (∀ (l : VQ) i v, l.toArray.setIfInBounds i v = (l.set i v).toArray) ∧ (∀ (x : Value) l v, (x :: l).set 0 v = v :: l) ∧ (∀ (x : Value) l i v, (x :: l).set (i + 1) v = x :: l.set i v) :=
 ⟨fun _ _ _ => rfl, fun _ _ _ => qj .., fun _ _ _ => rfl, fun _ _ _ _ => rfl⟩
theorem Tk : (∀ (x : Oper) l i, (x :: l).take (i + 1) = x :: l.take i) ∧ (∀ (x : Oper) l i, (x :: l).drop (i + 1) = l.drop i) ∧ (∀ l : List Oper, l.take 0 = []) ∧ (∀ l : List Oper, l.drop 0 = l) ∧ (∀ i, ([] : List Oper).take i = []) ∧ ∀ i, ([] : List Oper).drop i = [] :=
 ⟨fun _ _ _ => rfl, fun _ _ _ => rfl, fun _ => rfl, fun _ => rfl, fun _ => List.take_nil, fun _ => List.drop_nil⟩
end
def IsT (_ : Value) (_ : WQ) : Prop := True
theorem IsT.lasting : ∀ v w w', Below w.heap.size w w' -> IsT v w -> IsT v w' := fun _ _ _ _ _ => trivial
end
end Go.Proofs.YtoalkldfhkabnaaGreatDoor
