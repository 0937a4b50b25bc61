/- What every row's proof wants: closed facts on the program, and the arguments opened. The reach: how long a slice that came in can be. The reach, further in: of a list's elements, of a struct's fields. -/
import Derived.Test.YtfggecdgnidhfaaDoorSame
import Derived.Test.YtfggecdgnidhfaaDoorFacts
import Derived.ProofKit
import Derived.OpenShut
import Derived.ShutString
import Derived.ChangeOld
import Derived.Deep.Slices
import Derived.SizedLaws
namespace Go.Proofs.YtfggecdgnidhfaaDoor
open Go.ChangeShapes Go.WideShapes Go.ChangeAt Go.RowKit Go.Deep

section
variable {H : Type} {enc : TypeId × Value → H} {W : World} {base : Nat} {v : Value} {d : DataW H} {p : List MemPlace}

theorem nat_of_u64 {x : Int} (h : (Lit.int .u64 x).wf = true) : ∃ n : Nat, x = (n : Int) ∧ n < 18446744073709551616 := by
  simp [Lit.wf, IntKind.min, IntKind.max, IntKind.signed, IntKind.bits] at h
  exact ⟨x.toNat, by omega, by omega⟩
theorem nat_of_u8 {x : Int} (h : (Lit.int .u8 x).wf = true) : ∃ n : Nat, x = (n : Int) ∧ n < 256 := by
  simp [Lit.wf, IntKind.min, IntKind.max, IntKind.signed, IntKind.bits] at h
  exact ⟨x.toNat, by omega, by omega⟩
theorem int_of_i64 {x : Int} (h : (Lit.int .i64 x).wf = true) : -9223372036854775808 ≤ x ∧ x ≤ 9223372036854775807 := by
  simp [Lit.wf, IntKind.min, IntKind.max, IntKind.signed, IntKind.bits] at h
  exact ⟨by omega, by omega⟩
theorem int_of_i8 {x : Int} (h : (Lit.int .i8 x).wf = true) : -128 ≤ x ∧ x ≤ 127 := by
  simp [Lit.wf, IntKind.min, IntKind.max, IntKind.signed, IntKind.bits] at h
  exact ⟨by omega, by omega⟩
theorem nat_of_u32 {x : Int} (h : (Lit.int .u32 x).wf = true) : ∃ n : Nat, x = (n : Int) ∧ n < 4294967296 := by
  simp [Lit.wf, IntKind.min, IntKind.max, IntKind.signed, IntKind.bits] at h
  exact ⟨x.toNat, by omega, by omega⟩

/-- A slice of numbers of 32 bits that came in reads as limbs. -/
theorem rd_of_trod {spare : Nat → Bool} {held : Bool} {fuel : Nat} {A : Option Addr} {n c : Nat} {x : DataW H × List MemPlace}
    (hf : DataW.trod enc Tryd.prog W base spare held fuel 23 [.slice A n c] = some x) : ∃ l, Rd W A n c l := by
  rcases open_ints Tryd.underlying23 Tryd.underlying40 (by kernel_rfl) hf with ⟨hcs, _⟩ | ⟨a, len', cap', zs, hcs, _, hl, hm, hz, _, hcell, hwz⟩
  · simp at hcs
    obtain ⟨rfl, rfl, rfl⟩ := hcs
    exact ⟨[], Rd.nil W⟩
  · simp at hcs
    obtain ⟨rfl, rfl, rfl⟩ := hcs
    have hlen : n ≤ zs.length := by rw [hz]; split <;> omega
    have hk : ∀ j, j < n → (((zs.take n).map Int.toNat)[j]?.getD 0 : Nat) = (zs.getD j 0) := by
      intro j hj
      have hjz : j < zs.length := by omega
      have := nat_of_u32 (hwz zs[j] (List.getElem_mem hjz))
      obtain ⟨m, hm, _⟩ := this
      simp [hj, hjz, hm]
    refine ⟨(zs.take n).map Int.toNat, by simp; omega, hl, hm, ?_, fun hn => ?_⟩
    · intro x hx
      simp only [List.mem_map] at hx
      obtain ⟨z, hz1, rfl⟩ := hx
      obtain ⟨m, rfl, hm⟩ := nat_of_u32 (hwz z (List.mem_of_mem_take hz1))
      simpa using hm
    · have h0 := hcell 0 (by omega)
      obtain ⟨b, off, spot⟩ := a
      have hspot : spot = none := by simpa [Addr.add] using World.cell?_spot h0
      subst hspot
      refine ⟨b, off, rfl, ?_, fun j hj => ?_⟩
      · simpa [Addr.add] using block_lt_of_cell h0
      · have := hcell j (by omega)
        rw [Addr.add_lit] at this
        rw [this, lim_eq, hk j hj]
theorem open_nat (hv : Value.okWide Tryd.prog W .any base 23 v) (h : DataW.Trod enc Tryd.prog W 0 (fun _ => true) true 23 v d p) : ∃ A n c l, v = .slice A n c ∧ Rd W A n c l := by
  obtain ⟨A, n, c, rfl⟩ := okWide_slice Tryd.underlying23 hv
  obtain ⟨fuel, hf⟩ := h
  obtain ⟨l, hl⟩ := rd_of_trod hf
  exact ⟨A, n, c, l, rfl, hl⟩
end

/-- All that the datum weighs lies within the reach. -/
def Sized {H : Type} (t : TypeId) (d : DataW H) : Prop := ∀ m ∈ d.weights Tryd.prog t, m ≤ reachBytes

theorem sized_arg {H : Type} {ts : List TypeId} {ds : List (DataW H)} (h : (DataW.weightsEach Tryd.prog ts ds).all (· ≤ reachBytes) = true) {j : Nat} {t : TypeId} {d : DataW H} (ht : ts[j]? = some t) (hd : ds[j]? = some d) : Sized t d := by
  intro m hm
  have := List.all_eq_true.1 h _ (DataW.weights_mem_each ht hd m hm)
  simpa using this

theorem sized_slice_len {H : Type} {t e : TypeId} {elems spare : List (DataW H)} (h : Sized t (.slice elems spare)) (hu : Tryd.prog.underlying t = some (.slice e)) : (elems.length + spare.length) * Tryd.prog.bytesOf e ≤ reachBytes :=
  h _ (by simp [DataW.weights, hu])

theorem bytesU32 : Tryd.prog.bytesOf 40 = 4 := by kernel_rfl

section
variable {H : Type} {enc : TypeId × Value → H} {W : World} {base : Nat} {v : Value} {d : DataW H} {p : List MemPlace}

theorem len_of_trod {spare : Nat → Bool} {held : Bool} {fuel : Nat} {A : Option Addr} {n c : Nat} {x : DataW H × List MemPlace}
    (hf : DataW.trod enc Tryd.prog W base spare held fuel 23 [.slice A n c] = some x) (hs : Sized 23 x.1) : n ≤ 35184372088832 := by
  rcases open_ints Tryd.underlying23 Tryd.underlying40 (by kernel_rfl) hf with ⟨hcs, _⟩ | ⟨a, len', cap', zs, hcs, _, hl, hm, hz, hx, hcell, hwz⟩
  · simp at hcs
    obtain ⟨_, rfl, _⟩ := hcs
    omega
  · simp at hcs
    obtain ⟨_, rfl, rfl⟩ := hcs
    rw [hx] at hs
    have h1 := sized_slice_len hs Tryd.underlying23
    rw [bytesU32] at h1
    have hlen : n ≤ zs.length := by rw [hz]; split <;> omega
    simp only [lits, List.length_map, List.length_take, List.length_drop, reachBytes] at h1
    omega

theorem open_nat_sized (hv : Value.okWide Tryd.prog W .any base 23 v) (h : DataW.Trod enc Tryd.prog W 0 (fun _ => true) true 23 v d p) (hs : Sized 23 d) : ∃ A n c l, v = .slice A n c ∧ Rd W A n c l ∧ n ≤ 35184372088832 := by
  obtain ⟨A, n, c, rfl⟩ := okWide_slice Tryd.underlying23 hv
  obtain ⟨fuel, hf⟩ := h
  obtain ⟨l, hl⟩ := rd_of_trod hf
  exact ⟨A, n, c, l, rfl, hl, len_of_trod hf hs⟩
end

theorem weightsAll_mem {H : Type} {e : TypeId} : ∀ {ds : List (DataW H)} {d : DataW H}, d ∈ ds → ∀ n ∈ d.weights Tryd.prog e, n ∈ DataW.weightsAll Tryd.prog e ds
  | x :: ds, d, h, n, hn => by
    simp only [DataW.weightsAll, List.mem_append]
    rcases List.mem_cons.1 h with rfl | h
    · exact .inl hn
    · exact .inr (weightsAll_mem h n hn)
theorem sized_elem {H : Type} {t e : TypeId} {elems spare : List (DataW H)} {d : DataW H} (h : Sized t (.slice elems spare)) (hu : Tryd.prog.underlying t = some (.slice e)) (hd : d ∈ elems) : Sized e d := fun n hn =>
  h n (by simp only [DataW.weights, hu, List.mem_cons, List.mem_append]; exact .inr (.inl (weightsAll_mem hd n hn)))
theorem sized_field {H : Type} {t : TypeId} {fs : Array Field} {parts : List (DataW H)} {d : DataW H} {j : Nat} {t' : TypeId} (h : Sized t (.agg parts)) (hu : Tryd.prog.underlying t = some (.struct fs))
    (ht : (fs.toList.map (·.type))[j]? = some t') (hd : parts[j]? = some d) : Sized t' d := fun n hn =>
  h n (by simp only [DataW.weights, hu]; exact DataW.weights_mem_each ht hd n hn)
end Go.Proofs.YtfggecdgnidhfaaDoor
