/- A region that draws its order, whose operations only make memory: one walk in the text's order, each operation shown from what it looks at alone. -/
import Derived.Deep.RegionHeld3
import Derived.StillTail
import Derived.Test.YtfggecdgnidhfaaDoorMem
namespace Go.Proofs.YtfggecdgnidhfaaDoor
open Go.RowKit

section
variable {P : Program} {ops : Array Oper} {Q : Exit → Act → World → Prop} {a0 : Act} {vals : Nat → Value}

def opEdges (ops : Array Oper) (i : Nat) : List Nat :=
  match ops[i]? with
  | some o => (o.after.toList.filter (Region.binds .any)).map (·.on)
  | none => []
def opDst (ops : Array Oper) (i : Nat) : Option Tmp := (ops[i]?).bind (·.dst)
def reach (ops : Array Oper) : Nat → List Nat → List Nat
  | 0, S => S
  | k + 1, S => reach ops k (if S.contains k then S ++ opEdges ops k else S)
def pairB (ops : Array Oper) (i j : Nat) : Bool :=
  match ops[i]?, ops[j]? with
  | some oi, some oj => ((opEdges ops j).contains i || oi.apart ops oj) && (oi.dst != oj.dst)
  | _, _ => false
def dstB (N : Nat) (x : Option Tmp) : Bool :=
  match x with
  | some d => decide (d < N)
  | none => false
/-- The first n operations of the region may be walked in the text's order; those behind them come up last, one after the other. -/
def headB (ops : Array Oper) (n N : Nat) : Bool :=
  Region.noSelect ops && decide (n ≤ ops.size) && ((List.range n).all fun j => dstB N (opDst ops j) && ((opEdges ops j).all fun e => decide (e < j)) && ((List.range j).all fun i => pairB ops i j)) &&
    ((List.range ops.size).all fun j => decide (j < n) || ((List.range n).all fun i => (reach ops j (opEdges ops j)).contains i))
def looksB (ops : Array Oper) (o : Oper) (x : Option Tmp) : Bool :=
  match x with
  | some d => (o.looksAt ops).contains d
  | none => false

theorem mem_opEdges {i e : Nat} {o : Oper} (ho : ops[i]? = some o) : e ∈ opEdges ops i ↔ ∃ x ∈ o.after, Region.binds .any x = true ∧ x.on = e := by
  simp only [opEdges, ho, List.mem_map, List.mem_filter, Array.mem_toList_iff]
  constructor
  · rintro ⟨x, ⟨h1, h2⟩, h3⟩
    exact ⟨x, h1, h2, h3⟩
  · rintro ⟨x, h1, h2, h3⟩
    exact ⟨x, ⟨h1, h2⟩, h3⟩

/-- The act behind the operations that L lists. -/
def fill (ops : Array Oper) (L : Nat → Bool) (vals : Nat → Value) (a0 : Act) : Nat → Act
  | 0 => a0
  | k + 1 => if L k then (fill ops L vals a0 k).put (opDst ops k) (vals k) else fill ops L vals a0 k

theorem put_size (a : Act) (x : Option Tmp) (v : Value) : (a.put x v).tmps.size = a.tmps.size := by
  cases x <;> simp [Act.put]
theorem fill_size (L : Nat → Bool) (k : Nat) : (fill ops L vals a0 k).tmps.size = a0.tmps.size := by
  induction k with
  | zero => rfl
  | succ k ih =>
    simp only [fill]
    split
    · rw [put_size, ih]
    · exact ih
theorem fill_congr {L L' : Nat → Bool} {vals' : Nat → Value} (k : Nat) (hL : ∀ j, j < k → L j = L' j) (hv : ∀ j, j < k → L j = true → vals j = vals' j) : fill ops L vals a0 k = fill ops L' vals' a0 k := by
  induction k with
  | zero => rfl
  | succ k ih =>
    have h1 := ih (fun j hj => hL j (by omega)) (fun j hj => hv j (by omega))
    simp only [fill, h1, ← hL k (by omega)]
    cases hk : L k
    · rfl
    · rw [hv k (by omega) hk]
theorem put_get_ne {a : Act} {x : Option Tmp} {v : Value} {t : Tmp} (h : x ≠ some t) : (a.put x v).tmps[t]? = a.tmps[t]? := by
  cases x with
  | none => rfl
  | some d =>
    have : d ≠ t := fun e => h (by rw [e])
    simp [Act.put, Array.getElem?_setIfInBounds_ne this]
theorem put_get_eq {a a' : Act} {x : Option Tmp} {v : Value} {t : Tmp} (hs : a.tmps.size = a'.tmps.size) (h : a.tmps[t]? = a'.tmps[t]?) : (a.put x v).tmps[t]? = (a'.put x v).tmps[t]? := by
  cases x with
  | none => exact h
  | some d =>
    by_cases hd : d = t
    · subst hd
      simp [Act.put, Array.getElem?_setIfInBounds, hs]
    · simp [Act.put, Array.getElem?_setIfInBounds_ne hd, h]
theorem fill_get {L L' : Nat → Bool} {t : Tmp} (k : Nat) (h : ∀ j, j < k → L j ≠ L' j → opDst ops j ≠ some t) : (fill ops L vals a0 k).tmps[t]? = (fill ops L' vals a0 k).tmps[t]? := by
  induction k with
  | zero => rfl
  | succ k ih =>
    have h1 := ih (fun j hj => h j (by omega))
    simp only [fill]
    have h2 := h k (by omega)
    cases hk : L k <;> cases hk' : L' k <;> simp only [if_true, if_false, Bool.false_eq_true]
    · exact h1
    · rw [put_get_ne (h2 (by rw [hk, hk']; decide))]
      exact h1
    · rw [put_get_ne (h2 (by rw [hk, hk']; decide))]
      exact h1
    · exact put_get_eq (by rw [fill_size, fill_size]) h1
/-- One more operation is listed. -/
theorem fill_set {L : Nat → Bool} {i : Nat} {v : Value} (hL : L i = false) (k : Nat) (hd : ∀ j, j < k → j ≠ i → ∀ d, opDst ops i = some d → opDst ops j ≠ some d) :
    fill ops (fun j => L j || j == i) (fun j => if j = i then v else vals j) a0 k = if i < k then (fill ops L vals a0 k).put (opDst ops i) v else fill ops L vals a0 k := by
  induction k with
  | zero => simp [fill]
  | succ k ih =>
    simp only [fill, ih (fun j hj => hd j (by omega))]
    by_cases hk : k = i
    · subst hk
      simp [hL]
    · have e1 : (k == i) = false := by simpa using hk
      simp only [e1, Bool.or_false, if_neg hk]
      by_cases hik : i < k
      · simp only [if_pos hik, if_pos (show i < k + 1 by omega)]
        split
        · rw [Act.put_comm _ _ _ (fun d h1 => hd k (by omega) hk d h1)]
        · rfl
      · simp only [if_neg hik, if_neg (show ¬ i < k + 1 by omega)]

/-- One operation, in the act a: it yields a value that meets p, and makes memory alone. -/
def stepM (P : Program) (ops : Array Oper) (o : Oper) (a : Act) (w : World) (p : Value → World → Prop) : Prop :=
  ∀ K : Act → World → Prop, Shut (∀ v w', p v w' → Below w.heap.size w w' → K (a.put o.dst v) w') →
    if Region.wanted o (yielded ops a.tmps) = true then Oper.wp P o a w K (fun _ _ _ => False) else K (a.put o.dst undef) w

theorem eval_put_self {a : Act} {d : Tmp} {v : Value} (h : d < a.tmps.size) : (a.put (some d) v).eval (.tmp d) = v := by
  simp [Act.put, Act.eval, h]

theorem stepM.move {i : Nat} {o : Oper} {a a' : Act} {w : World} {p : Value → World → Prop} {d : Tmp} (hd : o.dst = some d) (h1 : d < a.tmps.size) (hs : ∀ cs b, o.op ≠ .select cs b)
    (hop : ∀ t ∈ o.looksAt ops, a.tmps[t]? = a'.tmps[t]?) (h : stepM P ops o a w p) (hi : ops[i]? = some o) {K : Act → World → Prop} (hK : ∀ v w', p v w' → Below w.heap.size w w' → K (a'.put o.dst v) w') :
    wpOp P ops Q i K a' w := by
  have h' := h (fun a1 w1 => p (a1.eval (.tmp d)) w1 ∧ Below w.heap.size w w1 ∧ a1.defers = a.defers) (fun v w' hp hb => by
    rw [hd]
    simp only [eval_put_self h1]
    exact ⟨hp, hb, rfl⟩)
  rw [hd] at hK
  have hw : Region.wanted o (yielded ops a.tmps) = Region.wanted o (yielded ops a'.tmps) := by
    unfold Region.wanted
    cases hg : o.guard with
    | none => rfl
    | some gw =>
      obtain ⟨g, want⟩ := gw
      have hy : yielded ops a.tmps g = yielded ops a'.tmps g := by
        unfold yielded
        cases ht : (ops[g]?).bind (·.dst) with
        | none => rfl
        | some t =>
          have := hop t (by simp [Oper.looksAt, hg, ht])
          simp only [Option.bind_some, this]
      simp only [hy]
  have he : execOp a.eval o = execOp a'.eval o := execOp_congr o hs fun x hx => by
    cases x with
    | tmp t =>
      have := hop t (List.mem_append_left _ (List.mem_filterMap.2 ⟨.tmp t, by simpa using hx, rfl⟩))
      simp only [Act.eval, Array.getD_eq_getD_getElem?, this]
    | const v => rfl
    | global g => rfl
    | func f => rfl
  rw [hw] at h'
  unfold wpOp
  simp only [hi]
  split
  · rename_i hwt
    rw [if_pos hwt] at h'
    left
    unfold Oper.wp at h' ⊢
    rw [he] at h'
    generalize (execOp a'.eval o).run P w = r at h' ⊢
    cases r with
    | ok n w' =>
      cases n <;> simp only [Oper.upon] at h' ⊢
      case value u =>
        rw [hd, eval_put_self h1] at h'
        rw [hd]
        exact hK _ _ h'.1 h'.2.1
      case skip =>
        rw [hd, eval_put_self h1] at h'
        rw [hd]
        exact hK _ _ h'.1 h'.2.1
      case defer d' =>
        rw [hd] at h'
        have h9 : d' :: a.defers = a.defers := h'.2.2
        exact absurd (congrArg List.length h9) (by simp)
      case enter f args =>
        refine Calls.mono h' fun e w'' he' => ?_
        cases e with
        | returned u =>
          simp only [hd, eval_put_self h1] at he' ⊢
          exact hK _ _ he'.1 he'.2.1
        | panicked c => exact he'.elim
        | outgrown => obtain ⟨_, _, h9⟩ := he'; exact h9.elim
      case row row args =>
        refine Rows.mono h' fun u w'' he' => ?_
        rw [hd, eval_put_self h1] at he'
        rw [hd]
        exact hK _ _ he'.1 he'.2.1
    | halt x w' =>
      cases x <;> simp only [Oper.upon] at h'
  · rename_i hwt
    rw [if_neg hwt, hd, eval_put_self h1] at h'
    rw [hd]
    exact hK _ _ h'.1 h'.2.1

/-- The walk in the text's order: 'done' says of each operation that is behind, where its value lies, what it meets, and the value. -/
def Tab (P : Program) (ops : Array Oper) (Φ : World → Prop) (Q : Exit → Act → World → Prop) (tail : List Oper) : List Oper → List (Value → World → Prop) → List (Option Tmp × (Value → World → Prop) × Value) → Act → Prop
  | [], _, done, a => ∀ w, Φ w → (∀ d ∈ done, d.2.1 d.2.2 w) → wpList P ops Q tail a w
  | _ :: _, [], _, _ => False
  | o :: l, p :: ps, done, a => (∀ v w w', Below w.heap.size w w' → p v w → p v w') ∧ (∀ w, Φ w → (∀ d ∈ done, looksB ops o d.1 = true → d.2.1 d.2.2 w) → stepM P ops o a w p) ∧
      ∀ v, Tab P ops Φ Q tail l ps ((o.dst, p, v) :: done) (a.put o.dst v)

theorem Tab.out {Φ : World → Prop} {tail : List Oper} {PS : Nat → Value → World → Prop} (vals : Nat → Value) : ∀ (l : List Oper) (ps : List (Value → World → Prop)) (done : List (Option Tmp × (Value → World → Prop) × Value)) (k n : Nat),
    k + l.length = n → (∀ j, j < l.length → l[j]? = ops[k + j]?) → (∀ j p, ps[j]? = some p → PS (k + j) = p) → (∀ d ∈ done, ∃ j, j < k ∧ d = (opDst ops j, PS j, vals j)) →
    Tab P ops Φ Q tail l ps done (fill ops (fun _ => true) vals a0 k) →
    (∀ i o, k ≤ i → i < n → ops[i]? = some o → (∀ v w w', Below w.heap.size w w' → PS i v w → PS i v w') ∧
      ∀ w, Φ w → (∀ j, j < i → looksB ops o (opDst ops j) = true → PS j (vals j) w) → stepM P ops o (fill ops (fun _ => true) vals a0 i) w (PS i)) ∧
    ∀ w, Φ w → (∀ j, j < n → PS j (vals j) w) → wpList P ops Q tail (fill ops (fun _ => true) vals a0 n) w := by
  intro l
  induction l with
  | nil =>
    intro ps done k n hk _ _ hd h
    have : k = n := by simpa using hk
    subst this
    refine ⟨fun i o h1 h2 => by omega, fun w hw hp => h w hw fun d hdm => ?_⟩
    obtain ⟨j, hj, rfl⟩ := hd d hdm
    exact hp j hj
  | cons o l ih =>
    intro ps done k n hk hl hps hd h
    cases ps with
    | nil => exact h.elim
    | cons p ps =>
      have h0 : ops[k]? = some o := by simpa using (hl 0 (by simp)).symm
      have hp0 : PS k = p := by simpa using hps 0 p rfl
      obtain ⟨h1, h2, h3⟩ := h
      have hdst : opDst ops k = o.dst := by simp [opDst, h0]
      have h4 := ih ps ((o.dst, p, vals k) :: done) (k + 1) n (by simp at hk; omega) (fun j hj => by
          have := hl (j + 1) (by simp; omega)
          simpa [Nat.add_assoc, Nat.add_comm 1 j] using this)
        (fun j p' hj => by
          have := hps (j + 1) p' (by simpa using hj)
          rwa [show k + 1 + j = k + (j + 1) by omega])
        (fun d hdm => by
          rcases List.mem_cons.1 hdm with rfl | hdm
          · exact ⟨k, by omega, by rw [hdst, hp0]⟩
          · obtain ⟨j, hj, e⟩ := hd d hdm
            exact ⟨j, by omega, e⟩)
        (by
          have := h3 (vals k)
          simp only [fill, if_true, hdst]
          exact this)
      refine ⟨fun i o' hi hin ho' => ?_, h4.2⟩
      by_cases hik : i = k
      · subst hik
        obtain rfl : o' = o := Option.some.inj (ho'.symm.trans h0)
        rw [hp0]
        refine ⟨h1, fun w hw hdep => h2 w hw fun d hdm hlook => ?_⟩
        obtain ⟨j, hj, rfl⟩ := hd d hdm
        exact hdep j hj hlook
      · exact h4.1 i o' (by omega) hin ho'

theorem headB_spec {n N : Nat} (h : headB ops n N = true) : Region.noSelect ops = true ∧ n ≤ ops.size ∧
    (∀ j, j < n → (∃ d, opDst ops j = some d ∧ d < N) ∧ (∀ e ∈ opEdges ops j, e < j) ∧ ∀ i, i < j → ∃ oi oj, ops[i]? = some oi ∧ ops[j]? = some oj ∧ (i ∈ opEdges ops j ∨ oi.apart ops oj = true) ∧ oi.dst ≠ oj.dst) ∧
    (∀ j, n ≤ j → j < ops.size → ∀ i, i < n → i ∈ reach ops j (opEdges ops j)) := by
  simp only [headB, Bool.and_eq_true, decide_eq_true_eq, List.all_eq_true, List.mem_range, Bool.or_eq_true, List.contains_iff_mem] at h
  obtain ⟨⟨⟨h1, h2⟩, h3⟩, h4⟩ := h
  refine ⟨h1, h2, fun j hj => ?_, fun j hj hjs i hi => ?_⟩
  · obtain ⟨⟨h5, h6⟩, h7⟩ := h3 j hj
    refine ⟨?_, h6, fun i hi => ?_⟩
    · cases hd : opDst ops j with
      | none => rw [hd] at h5; cases h5
      | some d => rw [hd] at h5; exact ⟨d, rfl, by simpa [dstB] using h5⟩
    · have := h7 i hi
      unfold pairB at this
      cases hoi : ops[i]? with
      | none => simp [hoi] at this
      | some oi =>
        cases hoj : ops[j]? with
        | none => simp [hoi, hoj] at this
        | some oj =>
          simp only [hoi, hoj, Bool.and_eq_true, Bool.or_eq_true, List.contains_iff_mem, bne_iff_ne, ne_eq] at this
          exact ⟨oi, oj, rfl, rfl, this.1, this.2⟩
  · rcases h4 j hjs with h5 | h5
    · omega
    · exact h5 i hi

theorem reach_listed {L : Nat → Bool} (hc : ∀ j, L j = true → ∀ e ∈ opEdges ops j, L e = true) : ∀ (k : Nat) (S : List Nat), (∀ s ∈ S, L s = true) → ∀ s ∈ reach ops k S, L s = true
  | 0, _, h => h
  | k + 1, S, h => by
    refine reach_listed hc k _ fun s hs => ?_
    split at hs
    · rename_i hk
      rcases List.mem_append.1 hs with h1 | h1
      · exact h s h1
      · exact hc k (h k (by simpa using hk)) s h1
    · exact h s hs

/-- How many operations of the first n are not listed. -/
def missing (L : Nat → Bool) : Nat → Nat
  | 0 => 0
  | n + 1 => missing L n + (if L n then 0 else 1)
theorem missing_zero {L : Nat → Bool} : ∀ {n : Nat}, missing L n = 0 → ∀ j, j < n → L j = true
  | 0, _, j, hj => by omega
  | n + 1, h, j, hj => by
    simp only [missing] at h
    by_cases hjn : j = n
    · subst hjn
      cases hL : L j
      · simp [hL] at h
      · rfl
    · exact missing_zero (n := n) (by omega) j (by omega)
theorem missing_set {L : Nat → Bool} {i : Nat} (hL : L i = false) : ∀ n, missing (fun j => L j || j == i) n = missing L n - (if i < n then 1 else 0) ∧ (i < n → 1 ≤ missing L n)
  | 0 => by simp [missing]
  | n + 1 => by
    obtain ⟨h1, h2⟩ := missing_set hL n
    simp only [missing]
    by_cases hn : n = i
    · subst hn
      simp [hL] at h1 ⊢
      exact h1
    · have e1 : (n == i) = false := by simpa using hn
      simp only [e1, Bool.or_false]
      by_cases hi : i < n
      · have h3 := h2 hi
        simp only [if_pos hi, if_pos (show i < n + 1 by omega)] at h1 ⊢
        rw [h1]
        exact ⟨by omega, fun _ => by omega⟩
      · simp only [if_neg hi, if_neg (show ¬ i < n + 1 by omega)] at h1 ⊢
        rw [h1]
        exact ⟨by omega, fun h => by omega⟩
theorem missing_pos {L : Nat → Bool} : ∀ {n : Nat}, missing L n ≠ 0 → ∃ j, j < n ∧ L j = false ∧ ∀ i, i < j → L i = true
  | 0, h => absurd rfl h
  | n + 1, h => by
    by_cases hm : missing L n = 0
    · refine ⟨n, by omega, ?_, fun i hi => missing_zero hm i hi⟩
      simp only [missing, hm] at h
      cases hL : L n
      · rfl
      · simp [hL] at h
    · obtain ⟨j, h1, h2, h3⟩ := missing_pos hm
      exact ⟨j, by omega, h2, h3⟩

theorem tab_any {Φ : World → Prop} {n N : Nat} {PS : Nat → Value → World → Prop} (hB : headB ops n N = true) (hN : a0.tmps.size = N)
    (hΦ : ∀ w w', Below w.heap.size w w' → Φ w → Φ w')
    (hstep : ∀ vals i o, i < n → ops[i]? = some o → (∀ v w w', Below w.heap.size w w' → PS i v w → PS i v w') ∧
      ∀ w, Φ w → (∀ j, j < i → looksB ops o (opDst ops j) = true → PS j (vals j) w) → stepM P ops o (fill ops (fun _ => true) vals a0 i) w (PS i))
    (hend : ∀ (vals : Nat → Value) (listed : Array Bool) w, listed.size = ops.size → (∀ j, j < ops.size → listed.getD j true = decide (j < n)) → Φ w → (∀ j, j < n → PS j (vals j) w) → wpAny P .any ops Q (ops.size - n) listed (fill ops (fun _ => true) vals a0 n) w) :
    ∀ (m : Nat) (listed : Array Bool) (vals : Nat → Value) (w : World), missing (fun j => listed.getD j true) n = m → listed.size = ops.size → (∀ j, n ≤ j → j < ops.size → listed.getD j true = false) →
      (∀ j, j < n → listed.getD j true = true → ∀ e ∈ opEdges ops j, listed.getD e true = true) → Φ w → (∀ j, j < n → listed.getD j true = true → PS j (vals j) w) →
      wpAny P .any ops Q (m + (ops.size - n)) listed (fill ops (fun j => listed.getD j true) vals a0 n) w := by
  obtain ⟨hB1, hB2, hB3, hB4⟩ := headB_spec hB
  intro m
  induction m with
  | zero =>
    intro listed vals w hm hsz ht hc hw hp
    have hall := missing_zero hm
    rw [Nat.zero_add, fill_congr (L' := fun _ => true) (vals' := vals) n (fun j hj => hall j hj) (fun _ _ _ => rfl)]
    refine hend vals listed w hsz (fun j hj => ?_) hw (fun j hj => hp j hj (hall j hj))
    by_cases hjn : j < n
    · rw [hall j hjn]; simp [hjn]
    · rw [ht j (by omega) hj]; simp [hjn]
  | succ m ih =>
    intro listed vals w hm hsz ht hc hw hp
    rw [show m + 1 + (ops.size - n) = m + (ops.size - n) + 1 by omega]
    have hsame : ∀ e, e < ops.size → listed.getD e false = listed.getD e true := fun e he => by
      simp [Array.getD_eq_getD_getElem?, Array.getElem?_eq_getElem (show e < listed.size by omega)]
    refine ⟨fun hr => ?_, fun i hi => ?_⟩
    · obtain ⟨j, hj, h1, h2⟩ := missing_pos (L := fun j => listed.getD j true) (n := n) (by omega)
      obtain ⟨oj, hoj⟩ : ∃ o, ops[j]? = some o := ⟨_, Array.getElem?_eq_getElem (show j < ops.size by omega)⟩
      have : j ∈ Region.ready .any ops listed := mem_ready.2 ⟨h1, oj, hoj, fun e he hb => by
        have hlt := (hB3 j hj).2.1 e.on ((mem_opEdges hoj).2 ⟨e, he, hb, rfl⟩)
        rw [hsame e.on (by omega)]
        exact h2 e.on hlt⟩
      rw [hr] at this
      cases this
    · obtain ⟨hun, o, ho, hedge⟩ := mem_ready.1 hi
      have his : i < ops.size := (Array.getElem?_eq_some_iff.1 ho).1
      have hedges : ∀ e ∈ opEdges ops i, listed.getD e true = true := fun e he => by
        obtain ⟨x, hx, hb, rfl⟩ := (mem_opEdges ho).1 he
        have h1 := hedge x hx hb
        simp only [Array.getD_eq_getD_getElem?] at h1 ⊢
        cases hg : listed[x.on]? with
        | none => rfl
        | some b => rw [hg] at h1; exact h1
      by_cases hin : i < n
      · obtain ⟨⟨d, hd, hdN⟩, he, hpair⟩ := hB3 i hin
        have hod : o.dst = some d := by simpa [opDst, ho] using hd
        obtain ⟨hlast, hst⟩ := hstep vals i o hin ho
        have hlook : ∀ j, j < i → looksB ops o (opDst ops j) = true → listed.getD j true = true := fun j hj hl => by
          obtain ⟨oj, oi, hoj, hoi, h1, h2⟩ := hpair j hj
          obtain rfl : oi = o := Option.some.inj (hoi.symm.trans ho)
          rcases h1 with h1 | h1
          · exact hedges j h1
          · obtain ⟨h3, _, _⟩ := Oper.apart_spec h1
            cases hdj : oj.dst with
            | none => simp [looksB, opDst, hoj, hdj] at hl
            | some dj =>
              simp [looksB, opDst, hoj, hdj] at hl
              exact absurd hl (h3 dj hdj)
        have hM := hst w hw (fun j hj hl => hp j (by omega) (hlook j hj hl))
        refine stepM.move (a := fill ops (fun _ => true) vals a0 i) hod (by rw [fill_size, hN]; exact hdN) (Region.noSelect_spec hB1 i o · · ho) (fun t ht' => ?_) hM ho (fun v w' hpv hbw => ?_)
        · have e1 : fill ops (fun _ => true) vals a0 i = fill ops (fun j => decide (j < i)) vals a0 n := by
            have h1 : ∀ k, i + k ≤ n → fill ops (fun j => decide (j < i)) vals a0 (i + k) = fill ops (fun _ => true) vals a0 i := by
              intro k
              induction k with
              | zero => intro _; exact fill_congr _ (fun j hj => by simpa using hj) (fun _ _ _ => rfl)
              | succ k ihk =>
                intro hk
                rw [← Nat.add_assoc]
                simp only [fill]
                rw [if_neg (by simp), ihk (by omega)]
            have := h1 (n - i) (by omega)
            rw [show i + (n - i) = n by omega] at this
            exact this.symm
          rw [e1]
          refine fill_get n fun j hj hne hdj => ?_
          by_cases hji : j < i
          · have hlt := hlook j hji (by simp [looksB, hdj, ht'])
            simp [hji, hlt] at hne
          · have hL : listed.getD j true = true := by
              cases hL : listed.getD j true
              · simp [hji, hL] at hne
              · rfl
            have hji2 : i < j := by
              rcases Nat.lt_or_ge i j with h | h
              · exact h
              · have : j = i := by omega
                rw [this, hun] at hL
                cases hL
            obtain ⟨oi, oj, hoi, hoj, h1, h2⟩ := (hB3 j hj).2.2 i hji2
            obtain rfl : oi = o := Option.some.inj (hoi.symm.trans ho)
            rcases h1 with h1 | h1
            · have := hc j hj hL i h1
              rw [hun] at this
              cases this
            · obtain ⟨_, _, h3⟩ := Oper.apart_spec h1
              exact h3 t (by simpa [opDst, hoj] using hdj) ht'
        · have e2 : ∀ j, (listed.setIfInBounds i true).getD j true = (listed.getD j true || j == i) := fun j => by
            by_cases hji : j = i
            · subst hji
              simp [Array.getD_eq_getD_getElem?, show j < listed.size by omega]
            · rw [Go.getD_set_ne true (Ne.symm hji)]
              simp [hji]
          have e3 : (fun j => (listed.setIfInBounds i true).getD j true) = fun j => listed.getD j true || j == i := funext e2
          have hih := ih (listed.setIfInBounds i true) (fun j => if j = i then v else vals j) w' (by rw [e3]; have := (missing_set (L := fun j => listed.getD j true) (i := i) hun n).1; rw [if_pos hin] at this; omega) (by simp [hsz])
            (fun j hj hjs => by rw [e2, ht j hj hjs]; simp; omega)
            (fun j hj hL e hee => by
              rw [e2] at hL ⊢
              by_cases hji : j = i
              · subst hji
                rw [hedges e hee]; rfl
              · have : listed.getD j true = true := by simpa [hji] using hL
                rw [hc j hj this e hee]; rfl)
            (hΦ w w' hbw hw)
            (fun j hj hL => by
              by_cases hji : j = i
              · subst hji
                simpa using hpv
              · simp only [if_neg hji]
                rw [e2] at hL
                exact (hstep vals j _ hj (Array.getElem?_eq_getElem (show j < ops.size by omega))).1 _ w w' hbw (hp j hj (by simpa [hji] using hL)))
          rw [e3, fill_set (L := fun j => listed.getD j true) hun n (fun j hj hji d' hd' hdj => ?_), if_pos hin, hd, ← hod] at hih
          · exact hih
          · rcases Nat.lt_or_ge i j with h | h
            · obtain ⟨oi, oj, hoi, hoj, _, h2⟩ := (hB3 j hj).2.2 i h
              simp only [opDst, hoi, hoj, Option.bind_some] at hd' hdj
              exact h2 (hd'.trans hdj.symm)
            · obtain ⟨oj, oi, hoj, hoi, _, h2⟩ := hpair j (by omega)
              simp only [opDst, hoi, hoj, Option.bind_some] at hd' hdj
              exact h2 (hdj.trans hd'.symm)
      · have hL := reach_listed (ops := ops) (L := fun j => listed.getD j true) (fun j hj e hee => ?_) i (opEdges ops i) hedges
        · obtain ⟨j, hj, h1, _⟩ := missing_pos (L := fun j => listed.getD j true) (n := n) (by omega)
          have := hL j (hB4 i (by omega) his j hj)
          rw [h1] at this
          cases this
        · by_cases hjn : j < n
          · exact hc j hjn hj e hee
          · by_cases hjs : j < ops.size
            · rw [ht j (by omega) hjs] at hj
              cases hj
            · simp [opEdges, Array.getElem?_eq_none (show ops.size ≤ j by omega)] at hee

theorem fill_none {L : Nat → Bool} (k : Nat) (h : ∀ j, j < k → L j = false) : fill ops L vals a0 k = a0 := by
  induction k with
  | zero => rfl
  | succ k ih =>
    simp only [fill, h k (by omega), Bool.false_eq_true, if_false]
    exact ih (fun j hj => h j (by omega))
theorem missing_all {L : Nat → Bool} : ∀ n, (∀ j, j < n → L j = false) → missing L n = n
  | 0, _ => rfl
  | n + 1, h => by simp [missing, missing_all n (fun j hj => h j (by omega)), h n (by omega)]

/-- The list of what is behind the head. -/
def headDone (n m : Nat) : Array Bool := (List.replicate n true ++ List.replicate m false).toArray

theorem wp_region_tab {id : Nat} {l : List Oper} {w : World} (n N : Nat) (ps : List (Value → World → Prop)) (Φ : World → Prop) (hm : P.follows .mixedOrders = true) (hB : headB l.toArray n N = true)
    (hS : Region.seqB .any l.toArray (l.length - n) n (headDone n (l.length - n)) = true) (hN : a0.tmps.size = N) (hΦ : ∀ w w', Below w.heap.size w w' → Φ w → Φ w') (h0 : Φ w.drew)
    (h : Tab P l.toArray Φ Q (l.drop n) (l.take n) ps [] a0) : (Code.region id l.toArray true).wp P Q a0 w := by
  obtain ⟨_, hn, _, _⟩ := headB_spec hB
  have hn' : n ≤ l.length := by simpa using hn
  have hout := fun vals => Tab.out (ops := l.toArray) (a0 := a0) (PS := fun i => ps.getD i (fun _ _ => True)) vals (l.take n) ps [] 0 n (by simp; omega) (fun j hj => by
      simp at hj
      simp [show j < n by omega])
    (fun j p hj => by simp [List.getD_eq_getElem?_getD, hj]) (fun d hd => by cases hd) h
  refine wp_region_any hm ?_
  have H := tab_any (ops := l.toArray) (P := P) (Q := Q) (a0 := a0) (Φ := Φ) (n := n) (N := N) (PS := fun i => ps.getD i (fun _ _ => True)) hB hN hΦ
    (fun vals i o hi ho => (hout vals).1 i o (by omega) hi ho)
    (fun vals listed w' hsz hl hw hp => by
      have hlist : listed = headDone n (l.length - n) := by
        refine Array.ext_getElem? fun j => ?_
        by_cases hj : j < l.length
        · have h1 := hl j (by simpa using hj)
          rw [Array.getD_eq_getD_getElem?, Array.getElem?_eq_getElem (show j < listed.size by simpa [hsz] using hj)] at h1
          rw [Array.getElem?_eq_getElem (show j < listed.size by simpa [hsz] using hj)]
          simp only [Option.getD_some] at h1
          rw [h1]
          simp only [headDone, List.getElem?_toArray, List.getElem?_append, List.length_replicate, List.getElem?_replicate]
          by_cases hjn : j < n
          · simp [hjn]
          · simp [hjn, show j - n < l.length - n by omega]
        · rw [Array.getElem?_eq_none (by simp [hsz]; omega), headDone, List.getElem?_toArray, List.getElem?_eq_none (by simp; omega)]
      have := wpAny_of_seq (md := .any) (P := P) (ops := l.toArray) (Q' := Q) (l.drop n) n listed (fill l.toArray (fun _ => true) vals a0 n) w' (fun j => by simp [List.getElem?_drop]) (by rw [hlist]; simpa using hS) ((hout vals).2 w' hw hp)
      simpa using this)
    n (Array.replicate l.length false) (fun _ => undef) w.drew
    (missing_all n fun j hj => by simp [Array.getD_eq_getD_getElem?, show j < l.length by omega]) (by simp)
    (fun j hj hjs => by simp at hjs; simp [Array.getD_eq_getD_getElem?, hjs])
    (fun j hj hL => by simp [Array.getD_eq_getD_getElem?, show j < l.length by omega] at hL) h0
    (fun j hj hL => by simp [Array.getD_eq_getD_getElem?, show j < l.length by omega] at hL)
  rw [fill_none n (fun j hj => by simp [Array.getD_eq_getD_getElem?, show j < l.length by omega])] at H
  have e : n + (l.toArray.size - n) = l.toArray.size := by simp; omega
  rw [e] at H
  simpa using H

theorem Tab.cons {Φ : World → Prop} {tail l : List Oper} {o : Oper} {p : Value → World → Prop} {ps : List (Value → World → Prop)} {done : List (Option Tmp × (Value → World → Prop) × Value)} {a : Act}
    (h1 : ∀ v w w', Below w.heap.size w w' → p v w → p v w') (h2 : ∀ w, Φ w → (∀ d ∈ done, looksB ops o d.1 = true → d.2.1 d.2.2 w) → stepM P ops o a w p)
    (h3 : ∀ v, Tab P ops Φ Q tail l ps ((o.dst, p, v) :: done) (a.put o.dst v)) : Tab P ops Φ Q tail (o :: l) (p :: ps) done a := ⟨h1, h2, h3⟩
theorem Tab.nil {Φ : World → Prop} {tail : List Oper} {ps : List (Value → World → Prop)} {done : List (Option Tmp × (Value → World → Prop) × Value)} {a : Act}
    (h : ∀ w, Φ w → (∀ d ∈ done, d.2.1 d.2.2 w) → wpList P ops Q tail a w) : Tab P ops Φ Q tail [] ps done a := h
/-- A value that stands. -/
def IsV (u : Value) (v : Value) (_ : World) : Prop := v = u
theorem IsV.lasting {u : Value} : ∀ v w w', Below w.heap.size w w' → IsV u v w → IsV u v w' := fun _ _ _ _ h => h
end
end Go.Proofs.YtfggecdgnidhfaaDoor
