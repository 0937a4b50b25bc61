/- An append of one slice to a row in whose block no limb lies: none lies in the block of what comes out. -/
import Derived.Test.YtjadgomakoaibaaNumM
import Derived.Deep.AppendLies
namespace Go.Proofs.Ytjadgomakoaibaa
open Go.RowKit

/-- No limb lies in block b. -/
def NoU (w : World) (b : Nat) : Prop := ∀ o x, w.cell? ⟨b, o, none⟩ ≠ some (.int .u32 x)
theorem NoU.of_row {w : World} {b : Nat} {cs : Array Value} {t : TypeId} {fr : Nat × Nat} (h : w.heap[b]? = some (.cells cs t fr)) (hc : ∀ v ∈ cs, ∀ x, v ≠ .int .u32 x) : NoU w b := by
  intro o x h9
  rw [cell_of_row _ _ _ _ _ _ h] at h9
  exact hc _ (Array.mem_of_getElem? h9) x rfl
theorem NoU.keep {w w' : World} {b : Nat} (h : NoU w b) {B : Nat} (hb : Below B w w') (hlt : b < B) : NoU w' b := fun o x => by
  rw [hb.cell (p := ⟨b, o, none⟩) hlt]
  exact h o x
theorem zeroCells_mem {z : Value} {k : Nat} {v : Value} (h : v ∈ Builtin.zeroCells #[z] k) : v = z := by
  unfold Builtin.zeroCells at h
  simp at h
  obtain ⟨j, _, hj⟩ := h
  rw [Nat.mod_one] at hj
  simpa using hj.symm
section
variable {P : Program} (w : World)
theorem run_append_pure (t ty : TypeId) (base : Nat) (e : TypeId) (i : TypeInfo) (z : Value) (bytes : Nat) (ht : P.underlying t = some (.slice e)) (hi : P.info? e = some i) (hz : i.zero = some z)
    (hsize : i.size = 1) (hby : i.bytes = bytes) (hzs : z.cells = #[z]) (hzu : ∀ x, z ≠ .int .u32 x)
    (v : Value) (n : Nat) (xs : List Value) (hown : w.ownsRow base e 1 v n xs) (hpure : ∀ b, v.ownBlock = some b → NoU w b)
    (ad : Addr) (c : Nat) (u : Value) (hnews : w.cell? ad = some u) (had : ad.spot = none) (hu1 : u.oneCell' = true) (hu : ∀ x, u ≠ .int .u32 x)
    (h63 : n + 1 ≤ maxLen) (hbytes : (n + 1) * bytes ≤ 140737488355328) (hbase : base ≤ w.heap.size) :
    ∃ g cap w', (Builtin.append_ #[t, t] ty #[v, .slice (some ad) 1 c]).run P w = .ok (.slice (some ⟨g, 0, none⟩) (n + 1) cap) w' ∧
      w'.ownsRow base e 1 (.slice (some ⟨g, 0, none⟩) (n + 1) cap) (n + 1) (xs ++ [u]) ∧ w.grownBy w' v.ownBlock ∧ (v.ownBlock = some g ∨ g = w.heap.size) ∧ g < w'.heap.size ∧ NoU w' g := by
  have hn9 : ∀ j y, [u][j]? = some y → w.cell? (ad.add j) = some y := by
    intro j y hy
    cases j with
    | zero =>
      simp at hy
      subst hy
      obtain ⟨b, o, s⟩ := ad
      simp only at had
      subst had
      simpa [Addr.add_lit] using hnews
    | succ j => simp at hy
  have h1 : ∀ y ∈ [u], y.oneCell' = true := by intro y hy; simp only [List.mem_singleton] at hy; subst hy; exact hu1
  obtain ⟨g, cap, w', hr, h2, h3, h4, h5⟩ := run_append_lies (P := P) w t ty base e i z 1 bytes ht hi hz hsize hby (by rw [hzs]; rfl) (by omega) v n xs hown ad 1 c [u] (by simp) hn9 h1 (by omega) h63 hbytes hbase _ rfl
  refine ⟨g, cap, w', hr, h2, h3, h4, h5, ?_⟩
  have hm9 : n + 1 ≤ 9223372036854775807 := by unfold maxLen at h63; omega
  have hzc : ∀ k, ∀ y ∈ Builtin.zeroCells z.cells k, ∀ x, y ≠ .int .u32 x := by
    intro k y hy
    rw [hzs] at hy
    rw [zeroCells_mem hy]
    exact hzu
  rcases hown.2 with ⟨rfl, rfl⟩ | ⟨g0, cap0, cur, rfl, hbg, hg, hnc, hcm, hcs, htake⟩
  · have hr2 := run_append_nil (P := P) w t ty e i z ht hi hz ad 1 c [u] (by rw [hsize]; rfl) hn9 (by omega) (by omega) (by rw [hby]; omega)
    rw [hr2] at hr
    injection hr with e1 e2
    injection e1 with e3 _ _
    injection e3 with e3
    injection e3 with e3 _
    subst e3
    subst e2
    refine NoU.of_row (heap_alloc_new _ _) fun y hy => ?_
    rcases Array.mem_append.1 hy with hy | hy
    · simp at hy
      subst hy
      exact hu
    · exact hzc _ y hy
  · have hcur : ∀ y ∈ cur, ∀ x, y ≠ .int .u32 x := by
      intro y hy x hxy
      obtain ⟨j, hj, rfl⟩ := Array.getElem_of_mem hy
      refine hpure g0 rfl j x ?_
      rw [cell_of_row _ _ _ _ _ _ hg, Array.getElem?_eq_getElem hj, hxy]
    by_cases hroom : n + 1 ≤ cap0
    · have hr2 := run_append_room (P := P) w t ty e i ht hi g0 n cap0 cur hg ad 1 c [u] (by rw [hsize]; rfl) hn9 h1 hroom (by rw [hsize, hcs]; simp; omega)
      rw [hr2] at hr
      injection hr with e1 e2
      injection e1 with e3 _ _
      injection e3 with e3
      injection e3 with e3 _
      subst e3
      subst e2
      refine NoU.of_row (setRow_heap w g0 cur _ e _ hg) fun y hy => ?_
      simp only [List.mem_toArray, List.mem_append, List.mem_singleton] at hy
      rcases hy with (hy | hy) | hy
      · exact hcur y (by simpa using List.mem_of_mem_take hy)
      · subst hy; exact hu
      · exact hcur y (by simpa using List.mem_of_mem_drop hy)
    · have holds : ∀ j y, xs[j]? = some y → w.cell? ((⟨g0, 0, none⟩ : Addr).add j) = some y := hown.cells (g := g0) rfl
      have hr2 := run_append_grow (P := P) w t ty e i z ht hi hz ⟨g0, 0, none⟩ n cap0 xs (by rw [hsize]; exact hown.1) holds ad 1 c [u] (by rw [hsize]; rfl) hn9 (by omega) (by omega) (growslice_fits (by omega) (by rw [hby]; exact hbytes))
      rw [hr2] at hr
      injection hr with e1 e2
      injection e1 with e3 _ _
      injection e3 with e3
      injection e3 with e3 _
      subst e3
      subst e2
      refine NoU.of_row (heap_alloc_new _ _) fun y hy => ?_
      rcases Array.mem_append.1 hy with hy | hy
      · rcases Array.mem_append.1 hy with hy | hy
        · have hy2 : y ∈ cur.toList.take (n * 1) := by rw [htake]; simpa using hy
          exact hcur y (by simpa using List.mem_of_mem_take hy2)
        · simp at hy
          subst hy
          exact hu
      · exact hzc _ y hy

/-- The same, at the list of a plain region's operations. -/
theorem wpList_append_pure {ops : Array Oper} {rest : List Oper} {o : Oper} {a : Act} {Q : Exit → Act → World → Prop} (hgd : o.guard = none) (s x : Operand) (t : TypeId)
    (ho : o.op = .call { callee := .builtin .append, args := #[s, x], argTypes := #[t, t] })
    (base : Nat) (e : TypeId) (i : TypeInfo) (z : Value) (bytes : Nat) (ht : P.underlying t = some (.slice e)) (hi : P.info? e = some i) (hz : i.zero = some z)
    (hsize : i.size = 1) (hby : i.bytes = bytes) (hzs : z.cells = #[z]) (hzu : ∀ x, z ≠ .int .u32 x)
    (v : Value) (n : Nat) (xs : List Value) (hs : a.eval s = v) (hown : w.ownsRow base e 1 v n xs) (hpure : ∀ b, v.ownBlock = some b → NoU w b)
    (ad : Addr) (c : Nat) (u : Value) (hx : a.eval x = .slice (some ad) 1 c) (hnews : w.cell? ad = some u) (had : ad.spot = none) (hu1 : u.oneCell' = true) (hu : ∀ x, u ≠ .int .u32 x)
    (h63 : n + 1 ≤ maxLen) (hbytes : (n + 1) * bytes ≤ 140737488355328) (hbase : base ≤ w.heap.size)
    (h : ∀ g cap w', w'.ownsRow base e 1 (.slice (some ⟨g, 0, none⟩) (n + 1) cap) (n + 1) (xs ++ [u]) → w.grownBy w' v.ownBlock → (v.ownBlock = some g ∨ g = w.heap.size) → g < w'.heap.size → NoU w' g →
      wpList P ops Q rest (a.put o.dst (.slice (some ⟨g, 0, none⟩) (n + 1) cap)) w') : wpList P ops Q (o :: rest) a w := by
  obtain ⟨g, cap, w', hr, h2, h3, h4, h5, h6⟩ := run_append_pure (P := P) w t o.type base e i z bytes ht hi hz hsize hby hzs hzu v n xs hown hpure ad c u hnews had hu1 hu h63 hbytes hbase
  refine wpList_plain hgd fun K hK => ?_
  unfold Oper.wp execOp
  simp only [ho, resolve, invoke, builtin, Sem.run_bind, Sem.run_pure, Result.andThen_ok, List.map_toArray, List.map_cons, List.map_nil, hs, hx, hr]
  exact hK _ _ (h g cap w' h2 h3 h4 h5 h6)
end

theorem natC_grown {K N : Nat} {v : Value} {w w' : World} {row : Option Nat} (h : (natC K).rel N v w) (hg : w.grownBy w' row) (hp : ∀ b, row = some b → NoU w b) : (natC K).rel N v w' := by
  obtain ⟨A, n, c, h1, h2, h3⟩ := h
  refine ⟨A, n, c, h1, ⟨h2.len, h2.cap, h2.max, h2.lims, fun hn => ?_⟩, h3⟩
  obtain ⟨b, off, e, hlt, hc⟩ := h2.cells hn
  refine ⟨b, off, e, Nat.lt_of_lt_of_le hlt hg.size, fun j hj => hg.cell (hc j hj) (fun e9 => ?_)⟩
  exact hp b e9.symm (off + j) _ (hc j hj)
/-- The slices of a grid lie in blocks without limbs. -/
def PureV (vs : List Value) (n : Nat) (w : World) : Prop := ∀ i, i < n → ∀ b, (vs.getD i undef).ownBlock = some b → NoU w b
/-- A grid of numbers, behind an append to row i, once the slice that came out is stored. -/
theorem GridR.more {K : Nat} {w w' : World} {base : Nat} {er e : TypeId} {g n c : Nat} {vs : List Value} {R : List (List Nat)}
    (h : GridR (natC K) 0 w base er e 1 (some ⟨g, 0, none⟩) n c vs R) {i : Nat} (hi : i < n) {rows : List (List Value)} (hrows : Grid w base er e 1 (some ⟨g, 0, none⟩) n c vs rows)
    (hrow : (∀ j, j < n → (rows.getD j []).length = (R.getD j []).length) ∧ ∀ j k, j < n → k < (R.getD j []).length → (natC K).rel (at2 0 R j k) ((rows.getD j []).getD k undef) w)
    {b' m' d' : Nat} {u : Value} {N : Nat} (hown : w'.ownsRow base e 1 (.slice (some ⟨b', 0, none⟩) m' d') m' (rows.getD i [] ++ [u])) (hg : w.grownBy w' (vs.getD i undef).ownBlock) (hob : (vs.getD i undef).ownBlock = some b' ∨ b' = w.heap.size)
    (hpure : PureV vs n w) (hnew : (natC K).rel N u w) (hb' : NoU w' b') :
    GridR (natC K) 0 (w'.setCell ⟨g, i, none⟩ (.slice (some ⟨b', 0, none⟩) m' d')) base er e 1 (some ⟨g, 0, none⟩) n c (vs.set i (.slice (some ⟨b', 0, none⟩) m' d')) (R.set i (R.getD i [] ++ [N])) ∧
      PureV (vs.set i (.slice (some ⟨b', 0, none⟩) m' d')) n (w'.setCell ⟨g, i, none⟩ (.slice (some ⟨b', 0, none⟩) m' d')) := by
  have hlen := h.len
  obtain ⟨h1, h2, h3⟩ := hrows.appended hi hown hg hob
  obtain ⟨hr1, hr2⟩ := hrow
  have hvi : ∃ A9 n9 c9, vs.getD i undef = .slice A9 n9 c9 := by
    rcases hrows.form hi with ⟨h9, _⟩ | ⟨_, _, _, h9, _⟩
    · exact ⟨_, _, _, h9⟩
    · exact ⟨_, _, _, h9⟩
  obtain ⟨A9, n9, c9, hvi⟩ := hvi
  have hslot : w'.cell? ⟨g, i, none⟩ = some (.slice A9 n9 c9) := by rw [h2, hvi]
  have hold : ∀ N v, (natC K).rel N v w → (natC K).rel N v (w'.setCell ⟨g, i, none⟩ (.slice (some ⟨b', 0, none⟩) m' d')) := fun N v h9 => by
    obtain ⟨A, n, c, k1, k2, k3⟩ := natC_grown h9 hg (fun b hb => hpure i hi b hb)
    exact ⟨A, n, c, k1, k2.setCell hslot (by intro x e; cases e), k3⟩
  have hnoU : ∀ b, NoU w' b → NoU (w'.setCell ⟨g, i, none⟩ (.slice (some ⟨b', 0, none⟩) m' d')) b := fun b hb o x h9 => by
    by_cases he : (⟨g, i, none⟩ : Addr) = ⟨b, o, none⟩
    · rw [he] at h9 hslot
      rw [World.cell?_setCell_same _ _ _ hslot] at h9
      cases h9
    · rw [World.cell?_setCell_other _ _ _ _ he] at h9
      exact hb o x h9
  refine ⟨⟨_, h1, by rw [List.length_set]; exact hlen, fun j hj => ?_, fun j k hj hk => ?_⟩, fun j hj b hb => hnoU b ?_⟩
  · by_cases hij : i = j
    · subst hij
      rw [gset_self _ _ _ (by rw [hrows.lenR]; exact hi), gset_self _ _ _ (by omega), List.length_append, List.length_append, hr1 i hi]; rfl
    · rw [gset_ne _ _ _ hij, gset_ne _ _ _ hij]
      exact hr1 j hj
  · unfold at2
    by_cases hij : i = j
    · subst hij
      rw [gset_self _ _ _ (by omega)] at hk ⊢
      rw [gset_self _ _ _ (by rw [hrows.lenR]; exact hi)]
      rw [List.length_append, List.length_singleton] at hk
      have hri := hr1 i hi
      by_cases hkl : k < (R.getD i []).length
      · have e1 : (R.getD i [] ++ [N]).getD k 0 = at2 0 R i k := by
          unfold at2
          rw [List.getD_eq_getElem?_getD, List.getElem?_append_left hkl, ← List.getD_eq_getElem?_getD]
        have e2 : (rows.getD i [] ++ [u]).getD k undef = (rows.getD i []).getD k undef := by
          rw [List.getD_eq_getElem?_getD, List.getElem?_append_left (by omega), ← List.getD_eq_getElem?_getD]
        rw [e1, e2]
        exact hold _ _ (hr2 i k hi hkl)
      · have hkk : k = (R.getD i []).length := by omega
        have e1 : (R.getD i [] ++ [N]).getD k 0 = N := by
          rw [List.getD_eq_getElem?_getD, List.getElem?_append_right (by omega), hkk]; simp
        have e2 : (rows.getD i [] ++ [u]).getD k undef = u := by
          rw [List.getD_eq_getElem?_getD, List.getElem?_append_right (by omega), hkk, hri]; simp
        rw [e1, e2]
        exact hold _ _ hnew
    · rw [gset_ne _ _ _ hij] at hk ⊢
      rw [gset_ne _ _ _ hij]
      exact hold _ _ (hr2 j k hj hk)
  · by_cases hij : i = j
    · subst hij
      rw [gset_self _ _ _ (by rw [hrows.lenV]; exact hi)] at hb
      injection hb with hb
      subst hb
      exact hb'
    · rw [gset_ne _ _ _ hij] at hb
      intro o x h9
      by_cases hbb : some b = (vs.getD i undef).ownBlock
      · exact hij ((hrows.apart j hj b hb).2 i hi hbb.symm)
      · obtain ⟨m9, hm9⟩ := hrows.inner j hj
        have hlt := (hm9.lt b hb).2
        have := World.cell?_of_block (w := w) (a := ⟨b, o, none⟩) (hg.block b hlt hbb)
        rw [this] at h9
        exact hpure j hj b hb o x h9
end Go.Proofs.Ytjadgomakoaibaa
