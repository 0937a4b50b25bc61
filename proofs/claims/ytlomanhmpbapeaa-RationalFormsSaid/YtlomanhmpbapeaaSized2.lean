/- The reach, further in: of a list's elements, of a struct's fields. -/
import Derived.Test.YtlomanhmpbapeaaSized
namespace Go.Proofs.Ytlomanhmpbapeaa
open Go.ChangeShapes Go.WideShapes Go.ChangeAt Go.RowKit Go.Deep

theorem weightsAll_mem {H : Type} {e : TypeId} : ∀ {ds : List (DataW H)} {d : DataW H}, d ∈ ds → ∀ n ∈ d.weights Try.prog e, n ∈ DataW.weightsAll Try.prog e ds
  | x :: ds, d, h, n, hn => by
    simp only [DataW.weightsAll, List.mem_append]
    rcases List.mem_cons.1 h with rfl | h
    · exact .inl hn
    · exact .inr (weightsAll_mem h n hn)
theorem sized_elem {H : Type} {t e : TypeId} {elems spare : List (DataW H)} {d : DataW H} (h : Sized t (.slice elems spare)) (hu : Try.prog.underlying t = some (.slice e)) (hd : d ∈ elems) : Sized e d := fun n hn =>
  h n (by simp only [DataW.weights, hu, List.mem_cons, List.mem_append]; exact .inr (.inl (weightsAll_mem hd n hn)))
theorem sized_field {H : Type} {t : TypeId} {fs : Array Field} {parts : List (DataW H)} {d : DataW H} {j : Nat} {t' : TypeId} (h : Sized t (.agg parts)) (hu : Try.prog.underlying t = some (.struct fs))
    (ht : (fs.toList.map (·.type))[j]? = some t') (hd : parts[j]? = some d) : Sized t' d := fun n hn =>
  h n (by simp only [DataW.weights, hu]; exact DataW.weights_mem_each ht hd n hn)

end Go.Proofs.Ytlomanhmpbapeaa
