/- Part of WholeTraces. -/
import Derived.Maps.RangeWalk
import Derived.LoopN
import Derived.Lib.Bytealg
import Derived.Laws.Externs
import Derived.Deep.AppendLies
import Derived.Test.YtoalkldfhkabnaaGreatDoorW00
import Derived.Test.YtoalkldfhkabnaaGreatDoorW10
import Derived.Test.YtoalkldfhkabnaaGreatDoorW27
set_option linter.all false
set_option maxRecDepth 10000
set_option maxHeartbeats 16000000
namespace Go.Proofs.YtoalkldfhkabnaaGreatDoor
open Go.RowKit Fq
section
open Go.RowKit
open Go.Maps (Keyed)
def RV (v : Value) : Option (DataW Value × List MemPlace) := some (.held v, [])
def HasM (w : WQ) (P : Program) (k : TypeId) (b n : Nat) (f : List UInt8 -> Option Value) : Prop :=
 ∃ D : DataW Value, w.ownsMap P k RV b n D ∧ ∀ s, Maps.has D (.string s) = (f s).isSome ∧ ∀ v, f s = some v -> ∀ z, D.atKey (.string s) z = .held v
def putM (f : List UInt8 -> Option Value) (s : List UInt8) (v : Value) : List UInt8 -> Option Value := fun x => if x = s then some v else f x
section
variable {P : Program} {k : TypeId} {w w' : WQ} {b n : Nat} {f : List UInt8 -> Option Value}
theorem HasM.made (w : WQ) (P : Program) (k : TypeId) : HasM (w.alloc (.map #[] 0)) P k w.heap.size 0 (fun _ => none) :=
 ⟨.map [], World.ownsMap_made w P k RV, fun s => ⟨rfl, fun v h => by cases h⟩⟩
theorem HasM.kept (h : HasM w P k b n f) {r : Option Nat} (hg : w.grownBy w' r) (e0 : some b ≠ r) : HasM w' P k b n f := by
 obtain ⟨D, h1, h2⟩ := h
 exact ⟨D, h1.kept hg e0, h2⟩
theorem HasM.lt (h : HasM w P k b n f) : b < w.heap.size := by obtain ⟨D, h1, _⟩ := h; exact h1.lt
theorem HasM.look (h : HasM w P k b n f) (hk : P.underlying k = some .string) {t e : TypeId} (ht : P.underlying t = some (.map k e)) {z : Value} (hz : (zeroValue e).run P w = .ok z w) (s : ByteArray) (hs : s.size <= maxLen) :
  (Instr.lookup t (.map (some b)) (.string s) false).run P w = .ok ((f s.data.toList).getD z) w := by
 obtain ⟨D, h1, h2⟩ := h
 obtain ⟨v, ps, b0, hv⟩ := h1.lookup (Maps.string_keyed hk) ht hz (zd := .held z) (zp := []) rfl (WideMaps.keyOf_string_mk hk hs)
 rw [b0]
 simp only [RV, qc, Prod.mk.injEq] at hv
 obtain ⟨g1, g2⟩ := h2 s.data.toList
 cases hf : f s.data.toList with
 | none =>
  rw [hf] at g1; rw [Maps.atKey_of_not_has g1] at hv; have := hv.1; simp only [DataW.held.injEq] at this; rw [this]; rfl
 | some x =>
  rw [g2 x hf] at hv; have := hv.1; simp only [DataW.held.injEq] at this; rw [this]; rfl
theorem HasM.put (h : HasM w P k b n f) (hk : P.underlying k = some .string) {t e : TypeId} (ht : P.underlying t = some (.map k e)) (hn : n < maxLen) (s : ByteArray) (hs : s.size <= maxLen) (v : Value) :
  ∃ w', (Instr.mapUpdate t (.map (some b)) (.string s) v).run P w = .ok () w' ∧ HasM w' P k b (n + 1) (putM f s.data.toList v) ∧ w.grownBy w' (some b) := by
 obtain ⟨D, h1, h2⟩ := h
 obtain ⟨w', b0, a0, hg⟩ := h1.update (Maps.string_keyed hk) ht hn (key := .string s) (val := v) (d := .held v) (ps := []) (WideMaps.keyOf_string_mk hk hs) rfl
 refine ⟨w', b0, ⟨_, a0, fun x => ?_⟩, hg⟩
 unfold putM
 by_cases hx : x = s.data.toList
 ·subst hx
  rw [if_pos rfl]; exact ⟨Maps.has_put_same h1.isMap (show WideAt.IsKeyLit (.string s.data.toList) from trivial) _, fun u hu z => by cases hu; exact Maps.atKey_put_same h1.isMap (show WideAt.IsKeyLit (.string s.data.toList) from trivial) _ _⟩
 ·rw [if_neg hx]
  have e0 : Lit.string x ≠ Lit.string s.data.toList := fun e => hx (by injection e)
  exact ⟨(Maps.has_put_other e0 _).trans (h2 x).1, fun u hu z => (Maps.atKey_put_other e0 _ _).trans ((h2 x).2 u hu z)⟩
def Es (w : WQ) (P : Program) (k : TypeId) (b r n : Nat) (f : List UInt8 -> Option Value) (left : List UInt8 -> Bool) (cnt : Nat) : Prop :=
 ∃ (D : DataW Value) (L : Lit -> Bool), w.ranges P k RV b r n D L cnt ∧ (∀ s, Maps.has D (.string s) = (f s).isSome ∧ ∀ v, f s = some v -> ∀ z, D.atKey (.string s) z = .held v) ∧ ∀ s, left s = L (.string s)
theorem Es.kept {r cnt : Nat} {left : List UInt8 -> Bool} (h : Es w P k b r n f left cnt) {q : Option Nat} (hg : w.grownBy w' q) (h1 : some b ≠ q) (h2 : some r ≠ q) : Es w' P k b r n f left cnt := by
 obtain ⟨D, L, h3, h4⟩ := h
 exact ⟨D, L, h3.kept hg h1 h2, h4⟩
theorem Es.left_eq {r cnt : Nat} {left : List UInt8 -> Bool} (h : Es w P k b r n f left cnt) : w.rangeLeft b r = cnt := by
 obtain ⟨D, L, h3, _⟩ := h; exact h3.left_eq
theorem Es.lt {r cnt : Nat} {left : List UInt8 -> Bool} (h : Es w P k b r n f left cnt) : r < w.heap.size := by
 obtain ⟨D, L, h3, _⟩ := h; exact h3.lt
end
section
variable {P : Program} (w : WQ) {ops : Array Oper} {rest : List Oper} {o : Oper} {a : Act} {Q : Exit -> Act -> WQ -> Prop}
theorem Fw (hg : o.guard = none) (m x : Operand) (t : TypeId) (hop : o.op = Op.lookup t m x false) (k e : TypeId) (hk : P.underlying k = some .string) (ht : P.underlying t = some (.map k e)) (z : Value) (hz : (zeroValue e).run P w = .ok z w)
  (b n : Nat) (f : List UInt8 -> Option Value) (hm : a.eval m = .map (some b)) (a0 : HasM w P k b n f) (s : ByteArray) (hx : a.eval x = .string s) (hs : s.size <= maxLen)
  (hK : wpList P ops Q rest (a.put o.dst ((f s.data.toList).getD z)) w) : wpList P ops Q (o :: rest) a w := by
 refine wpList_plain hg fun K' c0 => ?_
 have b0 := a0.look hk ht hz s hs
 unfold Oper.wp
 simp [execOp, hop, hm, hx, b0, Result.andThen]
 exact c0 _ _ hK
theorem Kc (hg : o.guard = none) (m x v : Operand) (t : TypeId) (hop : o.op = Op.mapUpdate t m x v) (k e : TypeId) (hk : P.underlying k = some .string) (ht : P.underlying t = some (.map k e))
  (b n : Nat) (f : List UInt8 -> Option Value) (hm : a.eval m = .map (some b)) (a0 : HasM w P k b n f) (hn : n < maxLen) (s : ByteArray) (hx : a.eval x = .string s) (hs : s.size <= maxLen) (y : Value) (hv : a.eval v = y)
  (hK : ∀ w', HasM w' P k b (n + 1) (putM f s.data.toList y) -> w.grownBy w' (some b) -> wpList P ops Q rest (a.put o.dst undef) w') : wpList P ops Q (o :: rest) a w := by
 refine wpList_plain hg fun K' c0 => ?_
 obtain ⟨w', b0, r1, r2⟩ := a0.put hk ht hn s hs y
 unfold Oper.wp
 simp [execOp, hop, hm, hx, hv, b0, Result.andThen]
 exact c0 _ _ (hK w' r1 r2)
theorem Fx (hg : o.guard = none) (m x v : Operand) (t : TypeId) (hop : o.op = Op.insert t m x v) (k e : TypeId) (hk : P.underlying k = some .string) (ht : P.underlying t = some (.map k e))
  (b n : Nat) (f : List UInt8 -> Option Value) (hm : a.eval m = .map (some b)) (a0 : HasM w P k b n f) (hn : n < maxLen) (s : ByteArray) (hx : a.eval x = .string s) (hs : s.size <= maxLen) (y : Value) (hv : a.eval v = y)
  (hK : ∀ w', HasM w' P k b (n + 1) (putM f s.data.toList y) -> w.grownBy w' (some b) -> wpList P ops Q rest (a.put o.dst undef) w') : wpList P ops Q (o :: rest) a w := by
 refine wpList_plain hg fun K' c0 => ?_
 obtain ⟨w', b0, r1, r2⟩ := a0.put hk ht hn s hs y
 unfold Oper.wp
 simp [execOp, hop, hm, hx, hv, b0, Result.andThen]
 exact c0 _ _ (hK w' r1 r2)
theorem Om (hg : o.guard = none) (m : Operand) (t : TypeId) (hop : o.op = Op.range t m) (k e : TypeId) (hk : P.underlying k = some .string) (ht : P.underlying t = some (.map k e)) (b n : Nat) (f : List UInt8 -> Option Value)
  (hm : a.eval m = .map (some b)) (a0 : HasM w P k b n f)
  (hK : ∀ w' cnt, cnt <= n -> Es w' P k b w.heap.size n f (fun s => (f s).isSome) cnt -> w.grownBy w' none -> w'.heap.size = w.heap.size + 1 -> wpList P ops Q rest (a.put o.dst (pQ w.heap.size)) w') :
  wpList P ops Q (o :: rest) a w := by
 obtain ⟨D, h1, h2⟩ := a0
 exact wpList_range_own w hg m t hop k e (Maps.string_keyed hk) ht RV b n D hm h1 fun w' hr j0 hs => hK w' _ h1.size_le ⟨D, _, hr, h2, fun s => (h2 s).1.symm⟩ j0 hs
theorem Hy {P : Program} {k : TypeId} (hk : P.underlying k = some .string) {key : Value} {kl : Lit} (h : keyOf P k key = some kl) : ∃ x : ByteArray, key = .string x ∧ kl = .string x.data.toList ∧ x.size <= maxLen := WideMaps.string_of_keyOf hk h
theorem Qw (hg : o.guard = none) (it : Operand) (hop : o.op = Op.next it false) (k : TypeId) (hk : P.underlying k = some .string) (b r n : Nat) (f : List UInt8 -> Option Value) (left : List UInt8 -> Bool) (cnt : Nat)
  (hit : a.eval it = pQ r) (h : Es w P k b r n f left cnt)
  (hDone : (∀ s, left s = false) -> wpList P ops Q rest (a.put o.dst (.tuple #[.bool false])) w)
  (hMore : ∀ (x : ByteArray) (c : Value) (w' : WQ) (d0 : Nat), x.size <= maxLen -> left x.data.toList = true -> f x.data.toList = some c -> Es w' P k b r n f (fun z => left z && !decide (z = x.data.toList)) d0 -> d0 < cnt ->
   w.grownBy w' (some r) -> w'.heap.size = w.heap.size -> (Instr.entry (pQ r)).run P w' = .ok (.tuple #[.string x, c]) w' -> wpList P ops Q rest (a.put o.dst (.tuple #[.bool true, .string x, c])) w') :
  wpList P ops Q (o :: rest) a w := by
 obtain ⟨D, L, h3, h4, h5⟩ := h
 refine wpList_next_ranges (α := ByteArray) (β := Value) w hg it hop k (Maps.string_keyed hk) RV Value.string id (fun key kl f0 => by obtain ⟨x, rfl, _⟩ := Hy hk f0; exact ⟨x, rfl⟩) (fun v y _ => ⟨v, rfl⟩) b r n D L cnt hit h3 (fun _ hl => hDone fun s => (h5 s).trans (hl _)) ?_
 intro x c kl y w' d0 f0 n0 hv g0 o0 m0 l0 q0 i0
 obtain ⟨x', ex, rfl, t0⟩ := Hy hk f0
 cases ex
 simp only [RV, qc, id] at hv
 subst hv
 have r0 : (f x.data.toList).isSome = true := by rw [<- (h4 _).1]; exact Maps.has_true_of_atKey g0
 obtain ⟨v', h0⟩ := Option.isSome_iff_exists.1 r0
 have e1 := ((h4 _).2 v' h0 .nil).symm.trans (g0 .nil)
 simp only [DataW.held.injEq] at e1
 subst e1
 refine hMore x v' w' d0 t0 ((h5 _).trans n0) h0 ⟨D, _, o0, h4, fun s => ?_⟩ m0 l0 q0 i0
 show (left s && !decide (s = x.data.toList)) = _
 rw [h5 s]
 by_cases hsx' : s = x.data.toList
 ·subst hsx'
  rw [WideAt.sameKey_self (show WideAt.IsKeyLit (.string x.data.toList) from trivial)]; simp
 ·rw [Maps.sameKey_ne (fun e => hsx' (by injection e))]; simp [hsx']
end
end
def letB (x : Nat) : Bool := decide (97 <= x) && decide (x <= 122)
def digB (x : Nat) : Bool := decide (48 <= x) && decide (x <= 57)
def namB (x : Nat) : Bool := letB x || (digB x || x == 95)
theorem Bx (w : WQ) (x : Nat) : cQ 72 #[.int .u8 (x : Int)] w (Ba (.bool (letB x)) w) := by
 unfold letB
 by_cases h1 : 97 <= x
 ·have g1 : (97 : Int) <= (x : Int) := by omega
  by_cases h2 : x <= 122
  ·have g2 : (x : Int) <= 122 := by omega
   rw [decide_eq_true h1, decide_eq_true h2]; clear h1 h2; go_enter Tryz.func72, Tryz.ntmps72; go_wp2; go_ret; exact ⟨rfl, rfl⟩
  ·have g2 : decide ((x : Int) <= 122) = false := by simp; omega
   rw [decide_eq_true h1, decide_eq_false h2]; clear h1 h2; go_enter Tryz.func72, Tryz.ntmps72; go_wp2; go_ret; exact ⟨rfl, rfl⟩
 ·have g1 : decide ((97 : Int) <= (x : Int)) = false := by simp; omega
  rw [decide_eq_false h1]; clear h1; go_enter Tryz.func72, Tryz.ntmps72; go_wp2; go_ret; exact ⟨rfl, rfl⟩
theorem Ev (w : WQ) (x : Nat) : cQ 75 #[.int .u8 (x : Int)] w (Ba (.bool (digB x)) w) := by
 unfold digB
 by_cases h1 : 48 <= x
 ·have g1 : (48 : Int) <= (x : Int) := by omega
  by_cases h2 : x <= 57
  ·have g2 : (x : Int) <= 57 := by omega
   rw [decide_eq_true h1, decide_eq_true h2]; clear h1 h2; go_enter Tryz.func75, Tryz.ntmps75; go_wp2; go_ret; exact ⟨rfl, rfl⟩
  ·have g2 : decide ((x : Int) <= 57) = false := by simp; omega
   rw [decide_eq_true h1, decide_eq_false h2]; clear h1 h2; go_enter Tryz.func75, Tryz.ntmps75; go_wp2; go_ret; exact ⟨rfl, rfl⟩
 ·have g1 : decide ((48 : Int) <= (x : Int)) = false := by simp; omega
  rw [decide_eq_false h1]; clear h1; go_enter Tryz.func75, Tryz.ntmps75; go_wp2; go_ret; exact ⟨rfl, rfl⟩
theorem kO (w : WQ) (x : Nat) : cQ 74 #[.int .u8 (x : Int)] w (Ba (.bool (namB x)) w) := by
 have HL := sK fun (wx : WQ) => Bx wx x
 have HD := sK fun (wx : WQ) => Ev wx x
 unfold namB
 have f0 : ((x : Int) == 95) = (x == 95) := by
  by_cases h : x = 95
  ·subst h; rfl
  ·rw [beq_eq_false_iff_ne.2 h, beq_eq_false_iff_ne]; omega
 generalize letB x = l at *
 generalize digB x = d at *
 rw [<- f0]
 clear f0
 cases l <;> cases d
 all_goals
  go_enter Tryz.func74, Tryz.ntmps74; go_wp2_with (first | (go_at_call 72; refine (HL w).mono ?_; rintro e w' ⟨rfl, rfl⟩) | (go_at_call 75; refine (HD w).mono ?_; rintro e w' ⟨rfl, rfl⟩)); go_ret; exact ⟨rfl, rfl⟩
theorem Qf (w : WQ) (s : ByteArray) (a e : Nat) (ha : a <= e) (he : e <= s.size) (hall : ∀ i (h : i < s.size), a <= i -> i < e -> namB s[i].toNat = true) (hend : ∀ h : e < s.size, namB s[e].toNat = false) (hs : s.size <= 1000000) :
  cQ 73 #[.string s, nQ a, .func (Fn.func 74) #[] #[]] w (Ba (nQ e) w) := by
 have c0 := sK kO
 have a0 := sK hall
 have b0 := sK hend
 clear hall hend
 go_enter Tryz.func73, Tryz.ntmps73
 go_wp2
 go_loopw [1] (fun av wr => ∃ i : Nat, a <= i ∧ i <= e ∧ av = nQ i ∧ wr = w) (fun av _ => e - (intOf av).toNat)
 case atStart => exact ⟨a, qb _, ha, rfl, rfl⟩
 case round =>
  obtain ⟨i, d0, g0, rfl, rfl⟩ := hrel
  by_cases h : i < s.size
  ·have e0 : (i : Int) < (s.size : Int) := by omega
   have HX := sK (c0 wr s[i].toNat)
   by_cases hlt : i < e
   ·have := a0 i h d0 hlt
    rw [this] at HX; clear this; go_wp2_with (go_at_call 74; refine HX.mono ?_; rintro e w' ⟨rfl, rfl⟩); go_roundw
    case rel => exact ⟨i + 1, by omega, by omega, by go_num, trivial⟩
    case measure => simp [intOf]; omega
   ·obtain rfl : i = e := by omega
    have := b0 h; rw [this] at HX; clear this; go_wp2_with (go_at_call 74; refine HX.mono ?_; rintro e w' ⟨rfl, rfl⟩); go_ret; exact ⟨rfl, rfl⟩
  ·obtain rfl : i = e := by omega
   have e0 : decide ((i : Int) < (s.size : Int)) = false := by simp; omega
   go_wp2; go_ret; exact ⟨rfl, rfl⟩
theorem iY (w : WQ) (s : ByteArray) (a e : Nat) (ha : a <= e) (he : e <= s.size) (hall : ∀ i (h : i < s.size), a <= i -> i < e -> digB s[i].toNat = true) (hend : ∀ h : e < s.size, digB s[e].toNat = false) (hs : s.size <= 1000000) :
  cQ 73 #[.string s, nQ a, .func (Fn.func 75) #[] #[]] w (Ba (nQ e) w) := by
 have c0 := sK Ev
 have a0 := sK hall
 have b0 := sK hend
 clear hall hend
 go_enter Tryz.func73, Tryz.ntmps73
 go_wp2
 go_loopw [1] (fun av wr => ∃ i : Nat, a <= i ∧ i <= e ∧ av = nQ i ∧ wr = w) (fun av _ => e - (intOf av).toNat)
 case atStart => exact ⟨a, qb _, ha, rfl, rfl⟩
 case round =>
  obtain ⟨i, d0, g0, rfl, rfl⟩ := hrel
  by_cases h : i < s.size
  ·have e0 : (i : Int) < (s.size : Int) := by omega
   have HX := sK (c0 wr s[i].toNat)
   by_cases hlt : i < e
   ·have := a0 i h d0 hlt
    rw [this] at HX; clear this; go_wp2_with (go_at_call 75; refine HX.mono ?_; rintro e w' ⟨rfl, rfl⟩); go_roundw
    case rel => exact ⟨i + 1, by omega, by omega, by go_num, trivial⟩
    case measure => simp [intOf]; omega
   ·obtain rfl : i = e := by omega
    have := b0 h; rw [this] at HX; clear this; go_wp2_with (go_at_call 75; refine HX.mono ?_; rintro e w' ⟨rfl, rfl⟩); go_ret; exact ⟨rfl, rfl⟩
  ·obtain rfl : i = e := by omega
   have e0 : decide ((i : Int) < (s.size : Int)) = false := by simp; omega
   go_wp2; go_ret; exact ⟨rfl, rfl⟩
abbrev s0 : ByteArray := { data := #[104, 97, 109, 109, 105, 110, 103, 40, 103, 102, 40, 50, 41, 44, 32, 51, 41] }
theorem Qg (w : WQ) (s r : ByteArray) (a x : Nat) (hs : s.size <= 1000000) (ha : a + 1 < s.size) (hx : s[a].toNat = 48 + x) (hx9 : x <= 9) (hy : digB s[a + 1].toNat = false) (hz : letB s[a + 1].toNat = false) (hu : s[a + 1].toNat ≠ 95) (hex : s.extract a (a + 1) = r) (hr1 : r.size = 1) (hr0 : ∀ h : 0 < r.size, r[0].toNat = 48 + x) :
  cQ 76 #[.string s, nQ a] w (Ah (.agg #[.int .i64 2, .string r, nQ x, nQ a]) w) := by
 have HW := sK fun (wx : WQ) => (iY wx s a (a + 1) (by omega) (by omega) (fun i h h1 h2 => by
  obtain rfl : i = a := by omega
  rw [hx]; unfold digB; simp; omega) (fun h => hy) hs)
 have HL : Hid (∀ wx, cQ 72 #[.int .u8 (s[a + 1].toNat : Int)] wx (Ba (.bool false) wx)) := sK fun wx => by
  have := Bx wx s[a + 1].toNat
  rwa [hz] at this
 have m0 : ((s[a + 1].toNat : Int) == 95) = false := by rw [beq_eq_false_iff_ne]; omega
 have n0 : (a : Int) + 1 < (s.size : Int) := by omega
 have g0 : Hid (∀ W : WQ, ∀ ty, (Instr.next (pQ W.heap.size) true ty).run Tryz.prog (W.iter r 0) = .ok (.tuple #[.bool true, zQ, .int .i32 (48 + (x : Int))]) (W.iter r 1)) := sK fun W ty => by
  have h0 : 0 < r.size := by omega
  have := run_next_ascii (P := Tryz.prog) W r 0 ty h0 (by rw [hr0 h0]; omega); rw [hr0 h0] at this; simpa using this
 have e0 : Hid (∀ W : WQ, ∀ ty, (Instr.next (pQ W.heap.size) true ty).run Tryz.prog (W.iter r 1) = .ok (.tuple #[.bool false]) (W.iter r 1)) := sK fun W ty => run_next_end W r 1 ty (by omega)
 clear hx hy hz hu hr0
 unfold Ah
 go_enter Tryz.func76, Tryz.ntmps76
 go_upto_region 5 with (first | (go_at_call 73; refine (HW _).mono ?_; rintro e w' ⟨rfl, rfl⟩) | (go_at_call 72; refine (HL _).mono ?_; rintro e w' ⟨rfl, rfl⟩))
 obtain ⟨W, hW, l0, j0, b0⟩ := mk1 w #[zQ, .string { data := #[] }, zQ, zQ] 119
 rw [hW]
 clear hW
 have h1 := g0 W
 have h2 := e0 W
 have hI : ∀ p, From W (W.iter r p) := fun p => Ac W _
 have b1 : Blk (W.iter r 1) w.heap.size #[zQ, .string { data := #[] }, zQ, zQ] := b0.below (hI 1)
 obtain ⟨c0, c1, c2, c3⟩ := b1.t4
 have f0 := b1.free 0
 have f1 := b1.free 1
 have f2 := b1.free 2
 have f3 := b1.free 3
 have HB := sK (Aa (hI 1) j0)
 have a0 := sK b1
 clear l0 j0 b0 b1 g0 e0 hI
 go_wp2
 refine wp_loop_rounds 2 ?_
 rw [rounds_succ]
 go_wp2
 rw [rounds_succ]
 go_wp2
 have hv : (48 : Int) + (x : Int) - 48 = (x : Int) := by omega
 rw [hv]
 obtain ⟨W1, i0⟩ := xQ (W.iter r 1)
 rw [<- i0] at HB a0 ⊢
 clear i0
 have d0 := ((((a0.set 0 (.int .i64 2)).set 1 (.string r)).set 2 (nQ x)).set 3 (nQ a))
 simp only [qj, qo, qp] at d0
 obtain ⟨q0, q1, q2, q3⟩ := d0.t4
 have hF : From w ((((W1.setCell ⟨w.heap.size, 0, none⟩ (.int .i64 2)).setCell ⟨w.heap.size, 1, none⟩ (.string r)).setCell ⟨w.heap.size, 2, none⟩ (nQ x)).setCell ⟨w.heap.size, 3, none⟩ (nQ a)) := (((HB.setCell (p := ⟨w.heap.size, 0, none⟩) (qb _) _).setCell (p := ⟨w.heap.size, 1, none⟩) (qb _) _).setCell (p := ⟨w.heap.size, 2, none⟩) (qb _) _).setCell (p := ⟨w.heap.size, 3, none⟩) (qb _) _
 refine bodyPost_ret (v := .agg #[.int .i64 2, .string r, nQ x, nQ a]) (by simp [results, Tryz.results76, go_sem, q0, q1, q2, q3]) rfl ⟨rfl, hF⟩
abbrev sg : ByteArray := { data := #[40, 41, 91, 93, 44] }
theorem rV (s : ByteArray) (c : Int) (w : WQ) : (callFunc 182 #[.string s, .int .u8 c]).run Tryz.prog w = .ok (.value (.int .i64 (Lib.indexByte s.data.toList c.toNat.toUInt8))) w := by
 rw [run_callFunc_extern (e := Extern.BytealgIndexByte.indexByte) Tryz.func182 (by kernel_rfl) (by kernel_rfl) (by kernel_rfl) (by kernel_rfl), Lib.run_indexByteString]
 rfl
theorem Tc (w : WQ) (c r : Nat) (h : Lib.indexByte sg.data.toList c.toUInt8 = (r : Int)) : cQ 77 #[.string sg, .int .u8 (c : Int)] w (Ba (nQ r) w) := by
 have hx := rV sg (c : Int) w
 rw [show ((c : Int).toNat.toUInt8) = c.toUInt8 by simp, h] at hx
 go_enter Tryz.func77, Tryz.ntmps77
 go_wp2
 go_ret
 exact ⟨rfl, rfl⟩
structure Tok where
 k : Int
 t : ByteArray
 n : Int
 a : Int
def Tok.v (x : Tok) : VQ := [.int .i64 x.k, .string x.t, .int .i64 x.n, .int .i64 x.a]
def tvs (l : List Tok) : VQ := l.flatMap Tok.v
theorem oV : (Tryz.prog.info? 119).map (fun i => (i.zero, i.size, i.bytes)) = some (some (.agg #[zQ, .string { data := #[] }, zQ, zQ]), 4, 40) := by kernel_rfl
def OwnT (w : WQ) (base : Nat) (A : OQ) (n c : Nat) (l : List Tok) : Prop := w.ownsRow base 119 4 (.slice A n c) n (tvs l)
section
variable {P : Program} {w : WQ} {ops : Array Oper} {rest : List Oper} {o : Oper} {a : Act} {Q : Exit -> Act -> WQ -> Prop}
theorem Cd (hgd : o.guard = none) (s x : Operand) (t : TypeId)
  (ho : o.op = .call { callee := .builtin .append, args := #[s, x], argTypes := #[t, t] }) (i : TypeInfo) (ht : P.underlying t = some (.slice 119)) (hi : P.info? 119 = some i) (hz : i.zero = some (.agg #[zQ, .string { data := #[] }, zQ, zQ])) (hsize : i.size = 4) (hby : i.bytes = 40)
  (base : Nat) (A0 : OQ) (n0 c0 : Nat) (l0 : List Tok) (hs : a.eval s = .slice A0 n0 c0) (hown : OwnT w base A0 n0 c0 l0)
  (b : Nat) (y : Tok) (hx : a.eval x = .slice (sQ b) 1 1) (hc : ∀ j, j < 4 -> w.cell? ⟨b, j, none⟩ = y.v[j]?) (hn : n0 <= 1000000) (hbase : base <= w.heap.size)
  (h : ∀ g c' w', OwnT w' base (sQ g) (n0 + 1) c' (l0 ++ [y]) -> Below base w w' -> wpList P ops Q rest (a.put o.dst (.slice (sQ g) (n0 + 1) c')) w') :
  wpList P ops Q (o :: rest) a w := by
 refine wpList_append_lies w hgd s x t ho base 119 i _ 4 40 ht hi hz hsize hby rfl (by omega) _ n0 (tvs l0) hs hown ⟨b, 0, none⟩ 1 1 y.v hx rfl (fun j u hj => ?_) (by simp [Tok.v, Value.oneCell']) (by omega) (by unfold maxLen; omega) (by omega) hbase _ rfl ?_
 ·have b0 : j < 4 := by
   have := (qbb.1 hj).1; simpa [Tok.v] using this
  rw [show (⟨b, 0, none⟩ : Addr).add j = ⟨b, j, none⟩ by simp [Addr.add] <;> omega, hc j b0, hj]
 ·intro g a0 w' h1 h2 h3 _
  refine h g a0 w' ?_ ?_
  ·unfold OwnT
   have : tvs (l0 ++ [y]) = tvs l0 ++ y.v := by simp [tvs, List.flatMap_append]
   rw [this]; exact h1
  ·refine qac (bR) h2 hbase fun k hk => ?_
   rcases Ce hown with ⟨e, _⟩ | ⟨b', c', e, hb, _⟩
   ·simp only [qm] at e; rw [e.1] at hk; simp [Value.ownBlock] at hk
   ·simp only [qm] at e; rw [e.1] at hk
    have : b' = k := by simpa [Value.ownBlock] using hk
    omega
end
def bHam : ByteArray := { data := #[104, 97, 109, 109, 105, 110, 103] }
def bGf : ByteArray := { data := #[103, 102] }
def bL : ByteArray := { data := #[40] }
def bRo : ByteArray := { data := #[41] }
def bC : ByteArray := { data := #[44] }
def b2 : ByteArray := { data := #[50] }
def b3 : ByteArray := { data := #[51] }
def T0 : List Tok := [⟨1, bHam, 0, 0⟩, ⟨3, bL, 0, 7⟩, ⟨1, bGf, 0, 8⟩, ⟨3, bL, 0, 10⟩, ⟨2, b2, 2, 11⟩, ⟨3, bRo, 0, 12⟩, ⟨3, bC, 0, 13⟩, ⟨2, b3, 3, 15⟩, ⟨3, bRo, 0, 16⟩]
theorem iG (w : WQ) : cQ 37 #[.string s0] w (fun e w' => ∃ g c, e = .returned (.slice (sQ g) 9 c) ∧ OwnT w' w.heap.size (sQ g) 9 c T0 ∧ From w w') := by
 obtain ⟨i1, hj, e0, f0, g0⟩ := info_parts oV
 have f2 : Hid (∀ wx, cQ 73 #[.string s0, zQ, .func (Fn.func 74) #[] #[]] wx (Ba (.int .i64 7) wx)) := sK fun wx => Qf wx s0 0 7 (by omega) (by decide) (fun i h h1 h2 => by
  rcases (by omega : i = 0 ∨ i = 1 ∨ i = 2 ∨ i = 3 ∨ i = 4 ∨ i = 5 ∨ i = 6) with rfl | rfl | rfl | rfl | rfl | rfl | rfl <;> rfl) (fun h => rfl) (by decide)
 have i2 : Hid (∀ wx, cQ 73 #[.string s0, .int .i64 8, .func (Fn.func 74) #[] #[]] wx (Ba (.int .i64 10) wx)) := sK fun wx => Qf wx s0 8 10 (by omega) (by decide) (fun i h h1 h2 => by
  rcases (by omega : i = 8 ∨ i = 9) with rfl | rfl <;> rfl) (fun h => rfl) (by decide)
 have z1 : Hid (∀ wx, cQ 76 #[.string s0, .int .i64 11] wx (Ah (.agg #[.int .i64 2, .string b2, .int .i64 2, .int .i64 11]) wx)) := sK fun wx => Qg wx s0 b2 11 2 (by decide) (by decide) rfl (by omega) rfl rfl (by decide) rfl rfl (fun _ => rfl)
 have a2 : Hid (∀ wx, cQ 76 #[.string s0, .int .i64 15] wx (Ah (.agg #[.int .i64 2, .string b3, .int .i64 3, .int .i64 15]) wx)) := sK fun wx => Qg wx s0 b3 15 3 (by decide) (by decide) rfl (by omega) rfl rfl (by decide) rfl rfl (fun _ => rfl)
 have r2 : Hid (∀ wx, cQ 72 #[.int .u8 32] wx (Ba (.bool false) wx)) := sK fun wx => Bx wx 32
 have j2 : Hid (∀ wx, cQ 75 #[.int .u8 32] wx (Ba (.bool false) wx)) := sK fun wx => Ev wx 32
 have q0 : Hid (∀ wx, cQ 72 #[.int .u8 40] wx (Ba (.bool false) wx)) := sK fun wx => Bx wx 40
 have n0 : Hid (∀ wx, cQ 75 #[.int .u8 40] wx (Ba (.bool false) wx)) := sK fun wx => Ev wx 40
 have r0 : Hid (∀ wx, cQ 72 #[.int .u8 41] wx (Ba (.bool false) wx)) := sK fun wx => Bx wx 41
 have o0 : Hid (∀ wx, cQ 75 #[.int .u8 41] wx (Ba (.bool false) wx)) := sK fun wx => Ev wx 41
 have v1 : Hid (∀ wx, cQ 72 #[.int .u8 44] wx (Ba (.bool false) wx)) := sK fun wx => Bx wx 44
 have g1 : Hid (∀ wx, cQ 75 #[.int .u8 44] wx (Ba (.bool false) wx)) := sK fun wx => Ev wx 44
 have x1 : Hid (∀ wx, cQ 72 #[.int .u8 50] wx (Ba (.bool false) wx)) := sK fun wx => Bx wx 50
 have j1 : Hid (∀ wx, cQ 75 #[.int .u8 50] wx (Ba (.bool true) wx)) := sK fun wx => Ev wx 50
 have y1 : Hid (∀ wx, cQ 72 #[.int .u8 51] wx (Ba (.bool false) wx)) := sK fun wx => Bx wx 51
 have k1 : Hid (∀ wx, cQ 75 #[.int .u8 51] wx (Ba (.bool true) wx)) := sK fun wx => Ev wx 51
 have s2 : Hid (∀ wx, cQ 72 #[.int .u8 97] wx (Ba (.bool true) wx)) := sK fun wx => Bx wx 97
 have m2 : Hid (∀ wx, cQ 72 #[.int .u8 102] wx (Ba (.bool true) wx)) := sK fun wx => Bx wx 102
 have t1 : Hid (∀ wx, cQ 72 #[.int .u8 103] wx (Ba (.bool true) wx)) := sK fun wx => Bx wx 103
 have u1 : Hid (∀ wx, cQ 72 #[.int .u8 104] wx (Ba (.bool true) wx)) := sK fun wx => Bx wx 104
 have n2 : Hid (∀ wx, cQ 72 #[.int .u8 105] wx (Ba (.bool true) wx)) := sK fun wx => Bx wx 105
 have o2 : Hid (∀ wx, cQ 72 #[.int .u8 109] wx (Ba (.bool true) wx)) := sK fun wx => Bx wx 109
 have p2 : Hid (∀ wx, cQ 72 #[.int .u8 110] wx (Ba (.bool true) wx)) := sK fun wx => Bx wx 110
 have t0 : Hid (∀ wx, cQ 77 #[.string sg, .int .u8 40] wx (Ba (zQ) wx)) := sK fun wx => Tc wx 40 0 (by decide)
 have v0 : Hid (∀ wx, cQ 77 #[.string sg, .int .u8 41] wx (Ba (.int .i64 1) wx)) := sK fun wx => Tc wx 41 1 (by decide)
 have d2 : Hid (∀ wx, cQ 77 #[.string sg, .int .u8 44] wx (Ba (.int .i64 4) wx)) := sK fun wx => Tc wx 44 4 (by decide)
 have l1 : Hid (s0.extract 0 7 = bHam) := sK rfl
 have r1 : Hid (s0.extract 7 8 = bL) := sK rfl
 have s1 : Hid (s0.extract 8 10 = bGf) := sK rfl
 have m1 : Hid (s0.extract 10 11 = bL) := sK rfl
 have k2 : Hid (s0.extract 11 12 = b2) := sK rfl
 have n1 : Hid (s0.extract 12 13 = bRo) := sK rfl
 have o1 : Hid (s0.extract 13 14 = bC) := sK rfl
 have l2 : Hid (s0.extract 15 16 = b3) := sK rfl
 have q1 : Hid (s0.extract 16 17 = bRo) := sK rfl
 have w0 : Hid (∀ h : 0 < s0.size, (s0[0]'h).toNat = 104) := sK fun _ => rfl
 have e1 : Hid (∀ h : 7 < s0.size, (s0[7]'h).toNat = 40) := sK fun _ => rfl
 have f1 : Hid (∀ h : 8 < s0.size, (s0[8]'h).toNat = 103) := sK fun _ => rfl
 have x0 : Hid (∀ h : 10 < s0.size, (s0[10]'h).toNat = 40) := sK fun _ => rfl
 have y0 : Hid (∀ h : 11 < s0.size, (s0[11]'h).toNat = 50) := sK fun _ => rfl
 have z0 : Hid (∀ h : 12 < s0.size, (s0[12]'h).toNat = 41) := sK fun _ => rfl
 have a1 : Hid (∀ h : 13 < s0.size, (s0[13]'h).toNat = 44) := sK fun _ => rfl
 have b1 : Hid (∀ h : 14 < s0.size, (s0[14]'h).toNat = 32) := sK fun _ => rfl
 have c1 : Hid (∀ h : 15 < s0.size, (s0[15]'h).toNat = 51) := sK fun _ => rfl
 have d1 : Hid (∀ h : 16 < s0.size, (s0[16]'h).toNat = 41) := sK fun _ => rfl
 have e2 : Hid (s0.size = 17) := sK rfl
 generalize s0 = s at *
 have u2 : s.size = 17 := e2.out
 go_enter Tryz.func37, Tryz.ntmps37
 go_wp2
 go_loopw [3, 4] (fun ov av wr => ∃ (a n : Nat) (A : OQ) (c : Nat), (a, n) ∈ ([(0, 0), (7, 1), (8, 2), (10, 3), (11, 4), (12, 5), (13, 6), (14, 7), (15, 7), (16, 8), (17, 9)] : List (Nat × Nat)) ∧ av = nQ a ∧ ov = .slice A n c ∧ OwnT wr w.heap.size A n c (T0.take n) ∧ From w wr) (fun _ av _ => 17 - (intOf av).toNat)
 case atStart => exact ⟨0, 0, none, 0, by simp, rfl, rfl, Rq w w.heap.size 119 4, From.refl w⟩
 case round =>
  obtain ⟨a, n, A, c, hm, rfl, rfl, hO, hF⟩ := hrel; obtain ⟨wo, rfl⟩ := xQ wr; have HF := sK hF; have HO := sK hO; have t2 := hF.size; clear hF hO; simp only [qx, Kq, or_false, Prod.mk.injEq] at hm
  rcases hm with ⟨rfl, rfl⟩ | ⟨rfl, rfl⟩ | ⟨rfl, rfl⟩ | ⟨rfl, rfl⟩ | ⟨rfl, rfl⟩ | ⟨rfl, rfl⟩ | ⟨rfl, rfl⟩ | ⟨rfl, rfl⟩ | ⟨rfl, rfl⟩ | ⟨rfl, rfl⟩ | ⟨rfl, rfl⟩
  ·
   have hb := w0 (by omega); have m0 := l1.out; go_upto_region 19 with (first | (go_at_call 72; refine (u1 _).mono ?_; rintro e w' ⟨rfl, rfl⟩) | (go_at_call 73; refine (f2 _).mono ?_; rintro e w' ⟨rfl, rfl⟩) | (at_builtin; refine Cd rfl (.tmp 45) (.tmp 52) 70 rfl i1 Tryz.underlying70 hj e0 f0 g0 w.heap.size _ _ _ (T0.take 0) rfl (Ag HO (Ac _ _) (qb _)) wo.heap.size (⟨1, bHam, 0, 0⟩ : Tok) rfl (fun j i0 => by rcases (by omega : j = 0 ∨ j = 1 ∨ j = 2 ∨ j = 3) with rfl | rfl | rfl | rfl <;> (go_simp <;> rfl)) (by omega) (by simp; omega) ?_; intro g2 c2 w2 a0 b0))
   have e9 : T0.take 0 ++ [(⟨1, bHam, 0, 0⟩ : Tok)] = T0.take 1 := rfl; rw [e9] at a0; have h0 : w2.cell? ⟨g2, 1, none⟩ = some (.string bHam) := a0.cellAt 1 (by decide); have j0 : bHam.size = 7 := rfl; have c0 := sK (((HF.alloc (by omega) _)).trans (qf b0 (qb _))); have d0 := sK a0; clear a0 b0; go_wp2; go_roundw
   case rel => exact ⟨7, 1, _, _, by simp, rfl, rfl, d0.out, c0.out⟩
   case measure => simp [intOf]
  ·
   have hb := e1 (by omega); have m0 := r1.out; go_upto_region 19 with (first | (go_at_call 72; refine (q0 _).mono ?_; rintro e w' ⟨rfl, rfl⟩) | (go_at_call 75; refine (n0 _).mono ?_; rintro e w' ⟨rfl, rfl⟩) | (go_at_call 77; refine (t0 _).mono ?_; rintro e w' ⟨rfl, rfl⟩) | (at_builtin; refine Cd rfl (.tmp 67) (.tmp 75) 70 rfl i1 Tryz.underlying70 hj e0 f0 g0 w.heap.size _ _ _ (T0.take 1) rfl (Ag HO (Ac _ _) (qb _)) wo.heap.size (⟨3, bL, 0, 7⟩ : Tok) rfl (fun j i0 => by rcases (by omega : j = 0 ∨ j = 1 ∨ j = 2 ∨ j = 3) with rfl | rfl | rfl | rfl <;> (go_simp <;> rfl)) (by omega) (by simp; omega) ?_; intro g2 c2 w2 a0 b0))
   have e9 : T0.take 1 ++ [(⟨3, bL, 0, 7⟩ : Tok)] = T0.take 2 := rfl; rw [e9] at a0; have h0 : w2.cell? ⟨g2, 5, none⟩ = some (.string bL) := a0.cellAt 5 (by decide); have j0 : bL.size = 1 := rfl; have c0 := sK (((HF.alloc (by omega) _)).trans (qf b0 (qb _))); have d0 := sK a0; clear a0 b0; go_wp2; go_roundw
   case rel => exact ⟨8, 2, _, _, by simp, rfl, rfl, d0.out, c0.out⟩
   case measure => simp [intOf]
  ·
   have hb := f1 (by omega); have m0 := s1.out; go_upto_region 19 with (first | (go_at_call 72; refine (t1 _).mono ?_; rintro e w' ⟨rfl, rfl⟩) | (go_at_call 73; refine (i2 _).mono ?_; rintro e w' ⟨rfl, rfl⟩) | (at_builtin; refine Cd rfl (.tmp 45) (.tmp 52) 70 rfl i1 Tryz.underlying70 hj e0 f0 g0 w.heap.size _ _ _ (T0.take 2) rfl (Ag HO (Ac _ _) (qb _)) wo.heap.size (⟨1, bGf, 0, 8⟩ : Tok) rfl (fun j i0 => by rcases (by omega : j = 0 ∨ j = 1 ∨ j = 2 ∨ j = 3) with rfl | rfl | rfl | rfl <;> (go_simp <;> rfl)) (by omega) (by simp; omega) ?_; intro g2 c2 w2 a0 b0))
   have e9 : T0.take 2 ++ [(⟨1, bGf, 0, 8⟩ : Tok)] = T0.take 3 := rfl; rw [e9] at a0; have h0 : w2.cell? ⟨g2, 9, none⟩ = some (.string bGf) := a0.cellAt 9 (by decide); have j0 : bGf.size = 2 := rfl; have c0 := sK (((HF.alloc (by omega) _)).trans (qf b0 (qb _))); have d0 := sK a0; clear a0 b0; go_wp2; go_roundw
   case rel => exact ⟨10, 3, _, _, by simp, rfl, rfl, d0.out, c0.out⟩
   case measure => simp [intOf]
  ·
   have hb := x0 (by omega); have m0 := m1.out; go_upto_region 19 with (first | (go_at_call 72; refine (q0 _).mono ?_; rintro e w' ⟨rfl, rfl⟩) | (go_at_call 75; refine (n0 _).mono ?_; rintro e w' ⟨rfl, rfl⟩) | (go_at_call 77; refine (t0 _).mono ?_; rintro e w' ⟨rfl, rfl⟩) | (at_builtin; refine Cd rfl (.tmp 67) (.tmp 75) 70 rfl i1 Tryz.underlying70 hj e0 f0 g0 w.heap.size _ _ _ (T0.take 3) rfl (Ag HO (Ac _ _) (qb _)) wo.heap.size (⟨3, bL, 0, 10⟩ : Tok) rfl (fun j i0 => by rcases (by omega : j = 0 ∨ j = 1 ∨ j = 2 ∨ j = 3) with rfl | rfl | rfl | rfl <;> (go_simp <;> rfl)) (by omega) (by simp; omega) ?_; intro g2 c2 w2 a0 b0))
   have e9 : T0.take 3 ++ [(⟨3, bL, 0, 10⟩ : Tok)] = T0.take 4 := rfl; rw [e9] at a0; have h0 : w2.cell? ⟨g2, 13, none⟩ = some (.string bL) := a0.cellAt 13 (by decide); have j0 : bL.size = 1 := rfl; have c0 := sK (((HF.alloc (by omega) _)).trans (qf b0 (qb _))); have d0 := sK a0; clear a0 b0; go_wp2; go_roundw
   case rel => exact ⟨11, 4, _, _, by simp, rfl, rfl, d0.out, c0.out⟩
   case measure => simp [intOf]
  ·
   have hb := y0 (by omega); go_upto_region 19 with (first | (go_at_call 72; refine (x1 _).mono ?_; rintro e w' ⟨rfl, rfl⟩) | (go_at_call 75; refine (j1 _).mono ?_; rintro e w' ⟨rfl, rfl⟩) | (go_at_call 76; refine (z1 _).mono ?_; rintro e w1 ⟨rfl, l0⟩) | (at_builtin; refine Cd rfl (.tmp 57) (.tmp 61) 70 rfl i1 Tryz.underlying70 hj e0 f0 g0 w.heap.size _ _ _ (T0.take 4) rfl (Ag (Ag HO l0 (qb _)) (Ac _ _) (qb _)) w1.heap.size (⟨2, b2, 2, 11⟩ : Tok) rfl (fun j i0 => by rcases (by omega : j = 0 ∨ j = 1 ∨ j = 2 ∨ j = 3) with rfl | rfl | rfl | rfl <;> (go_simp <;> rfl)) (by omega) (by simp; have := l0.size; omega) ?_; intro g2 c2 w2 a0 b0))
   have e9 : T0.take 4 ++ [(⟨2, b2, 2, 11⟩ : Tok)] = T0.take 5 := rfl; rw [e9] at a0; have h0 : w2.cell? ⟨g2, 17, none⟩ = some (.string b2) := a0.cellAt 17 (by decide); have j0 : b2.size = 1 := rfl; have c0 := sK (((Aa (Ac _ _) (Aa l0 HF.out))).trans (qf b0 (qb _))); have d0 := sK a0; clear a0 b0; go_wp2; go_roundw
   case rel => exact ⟨12, 5, _, _, by simp, rfl, rfl, d0.out, c0.out⟩
   case measure => simp [intOf]
  ·
   have hb := z0 (by omega); have m0 := n1.out; go_upto_region 19 with (first | (go_at_call 72; refine (r0 _).mono ?_; rintro e w' ⟨rfl, rfl⟩) | (go_at_call 75; refine (o0 _).mono ?_; rintro e w' ⟨rfl, rfl⟩) | (go_at_call 77; refine (v0 _).mono ?_; rintro e w' ⟨rfl, rfl⟩) | (at_builtin; refine Cd rfl (.tmp 67) (.tmp 75) 70 rfl i1 Tryz.underlying70 hj e0 f0 g0 w.heap.size _ _ _ (T0.take 5) rfl (Ag HO (Ac _ _) (qb _)) wo.heap.size (⟨3, bRo, 0, 12⟩ : Tok) rfl (fun j i0 => by rcases (by omega : j = 0 ∨ j = 1 ∨ j = 2 ∨ j = 3) with rfl | rfl | rfl | rfl <;> (go_simp <;> rfl)) (by omega) (by simp; omega) ?_; intro g2 c2 w2 a0 b0))
   have e9 : T0.take 5 ++ [(⟨3, bRo, 0, 12⟩ : Tok)] = T0.take 6 := rfl; rw [e9] at a0; have h0 : w2.cell? ⟨g2, 21, none⟩ = some (.string bRo) := a0.cellAt 21 (by decide); have j0 : bRo.size = 1 := rfl; have c0 := sK (((HF.alloc (by omega) _)).trans (qf b0 (qb _))); have d0 := sK a0; clear a0 b0; go_wp2; go_roundw
   case rel => exact ⟨13, 6, _, _, by simp, rfl, rfl, d0.out, c0.out⟩
   case measure => simp [intOf]
  ·
   have hb := a1 (by omega); have m0 := o1.out; go_upto_region 19 with (first | (go_at_call 72; refine (v1 _).mono ?_; rintro e w' ⟨rfl, rfl⟩) | (go_at_call 75; refine (g1 _).mono ?_; rintro e w' ⟨rfl, rfl⟩) | (go_at_call 77; refine (d2 _).mono ?_; rintro e w' ⟨rfl, rfl⟩) | (at_builtin; refine Cd rfl (.tmp 67) (.tmp 75) 70 rfl i1 Tryz.underlying70 hj e0 f0 g0 w.heap.size _ _ _ (T0.take 6) rfl (Ag HO (Ac _ _) (qb _)) wo.heap.size (⟨3, bC, 0, 13⟩ : Tok) rfl (fun j i0 => by rcases (by omega : j = 0 ∨ j = 1 ∨ j = 2 ∨ j = 3) with rfl | rfl | rfl | rfl <;> (go_simp <;> rfl)) (by omega) (by simp; omega) ?_; intro g2 c2 w2 a0 b0))
   have e9 : T0.take 6 ++ [(⟨3, bC, 0, 13⟩ : Tok)] = T0.take 7 := rfl; rw [e9] at a0; have h0 : w2.cell? ⟨g2, 25, none⟩ = some (.string bC) := a0.cellAt 25 (by decide); have j0 : bC.size = 1 := rfl; have c0 := sK (((HF.alloc (by omega) _)).trans (qf b0 (qb _))); have d0 := sK a0; clear a0 b0; go_wp2; go_roundw
   case rel => exact ⟨14, 7, _, _, by simp, rfl, rfl, d0.out, c0.out⟩
   case measure => simp [intOf]
  ·
   have hb := b1 (by omega); go_wp2; go_roundw
   case rel => exact ⟨15, 7, A, c, by simp, rfl, rfl, HO.out, HF.out⟩
   case measure => simp [intOf]
  ·
   have hb := c1 (by omega); go_upto_region 19 with (first | (go_at_call 72; refine (y1 _).mono ?_; rintro e w' ⟨rfl, rfl⟩) | (go_at_call 75; refine (k1 _).mono ?_; rintro e w' ⟨rfl, rfl⟩) | (go_at_call 76; refine (a2 _).mono ?_; rintro e w1 ⟨rfl, l0⟩) | (at_builtin; refine Cd rfl (.tmp 57) (.tmp 61) 70 rfl i1 Tryz.underlying70 hj e0 f0 g0 w.heap.size _ _ _ (T0.take 7) rfl (Ag (Ag HO l0 (qb _)) (Ac _ _) (qb _)) w1.heap.size (⟨2, b3, 3, 15⟩ : Tok) rfl (fun j i0 => by rcases (by omega : j = 0 ∨ j = 1 ∨ j = 2 ∨ j = 3) with rfl | rfl | rfl | rfl <;> (go_simp <;> rfl)) (by omega) (by simp; have := l0.size; omega) ?_; intro g2 c2 w2 a0 b0))
   have e9 : T0.take 7 ++ [(⟨2, b3, 3, 15⟩ : Tok)] = T0.take 8 := rfl; rw [e9] at a0; have h0 : w2.cell? ⟨g2, 29, none⟩ = some (.string b3) := a0.cellAt 29 (by decide); have j0 : b3.size = 1 := rfl; have c0 := sK (((Aa (Ac _ _) (Aa l0 HF.out))).trans (qf b0 (qb _))); have d0 := sK a0; clear a0 b0; go_wp2; go_roundw
   case rel => exact ⟨16, 8, _, _, by simp, rfl, rfl, d0.out, c0.out⟩
   case measure => simp [intOf]
  ·
   have hb := d1 (by omega); have m0 := q1.out; go_upto_region 19 with (first | (go_at_call 72; refine (r0 _).mono ?_; rintro e w' ⟨rfl, rfl⟩) | (go_at_call 75; refine (o0 _).mono ?_; rintro e w' ⟨rfl, rfl⟩) | (go_at_call 77; refine (v0 _).mono ?_; rintro e w' ⟨rfl, rfl⟩) | (at_builtin; refine Cd rfl (.tmp 67) (.tmp 75) 70 rfl i1 Tryz.underlying70 hj e0 f0 g0 w.heap.size _ _ _ (T0.take 8) rfl (Ag HO (Ac _ _) (qb _)) wo.heap.size (⟨3, bRo, 0, 16⟩ : Tok) rfl (fun j i0 => by rcases (by omega : j = 0 ∨ j = 1 ∨ j = 2 ∨ j = 3) with rfl | rfl | rfl | rfl <;> (go_simp <;> rfl)) (by omega) (by simp; omega) ?_; intro g2 c2 w2 a0 b0))
   have e9 : T0.take 8 ++ [(⟨3, bRo, 0, 16⟩ : Tok)] = T0.take 9 := rfl; rw [e9] at a0; have h0 : w2.cell? ⟨g2, 33, none⟩ = some (.string bRo) := a0.cellAt 33 (by decide); have j0 : bRo.size = 1 := rfl; have c0 := sK (((HF.alloc (by omega) _)).trans (qf b0 (qb _))); have d0 := sK a0; clear a0 b0; go_wp2; go_roundw
   case rel => exact ⟨17, 9, _, _, by simp, rfl, rfl, d0.out, c0.out⟩
   case measure => simp [intOf]
  ·
   have e9 : T0.take 9 = T0 := rfl; rw [e9] at HO; have hA : ∃ g, A = sQ g := by
    rcases Ce HO with ⟨_, h2, _⟩ | ⟨b', c', h1, _⟩
    ·omega
    ·simp only [qm] at h1; exact ⟨b', h1.1⟩
   obtain ⟨g, rfl⟩ := hA; go_wp2; go_ret; exact ⟨g, c, rfl, HO.out, HF.out⟩
end Go.Proofs.YtoalkldfhkabnaaGreatDoor
