/- Lists of rationals by their values: sums and products of two. -/
import Derived.Test.YtlomanhmpbapeaaRatMul
namespace Go.Proofs.Ytlomanhmpbapeaa
open Go.RowKit

/-- A slice of rationals in any form with the values qs, at most K limbs each. -/
def QL (w : World) (A : Option Addr) (n c : Nat) (qs : List Rat) (K : Nat) : Prop := ∃ ts, RawL w A n c ts ∧ ts.map ratT = qs ∧ ShortT K ts
section
variable {w w' : World} {A B A2 B2 : Option Addr} {n c m d n2 c2 m2 d2 K L : Nat} {s t : Bool} {p q : Rat} {qs : List Rat}
theorem QL.below (h : QL w A n c qs K) (hb : Below w.heap.size w w') : QL w' A n c qs K := by
  obtain ⟨ts, h1, h2, h3⟩ := h
  exact ⟨ts, h1.below hb, h2, h3⟩
theorem QL.up (hb : Below w.heap.size w w') (h : QL w A n c qs K) : QL w' A n c qs K := h.below hb
theorem QL.upAlloc {o : Obj} (h : QL w A n c qs K) : QL (w.alloc o) A n c qs K := h.below (below_alloc w o)
theorem QL.drew (h : QL w A n c qs K) : QL w.drew A n c qs K := by
  obtain ⟨ts, h1, h2, h3⟩ := h
  exact ⟨ts, h1.drew, h2, h3⟩
theorem QL.len (h : QL w A n c qs K) : qs.length = n := by
  obtain ⟨ts, h1, h2, h3⟩ := h
  rw [← h2, List.length_map, h1.len]
/-- A list of two rationals, just written out. -/
def IsQL (qs : List Rat) (K : Nat) (v : Value) (w : World) : Prop := ∃ g, v = .slice (some ⟨g, 0, none⟩) 2 2 ∧ QL w (some ⟨g, 0, none⟩) 2 2 qs K
theorem IsQL.lasting : ∀ v w w', Below w.heap.size w w' → IsQL qs K v w → IsQL qs K v w' := fun _ _ _ hb ⟨g, h1, h2⟩ => ⟨g, h1, h2.below hb⟩
theorem QL.nil (w : World) : QL w none 0 0 [] 0 := ⟨[], RawL.nil w, rfl, fun _ h => by simp at h⟩
theorem RawQ.limbs (h : RawQ w s A n c B m d q K) : ∃ ln ld, Rd w A n c ln ∧ Rd w B m d ld ∧ ratOf s (val ln) (val ld) = q ∧ ln.length ≤ K ∧ ld.length ≤ K := by
  obtain ⟨⟨ln, ld, h1, h2, h3⟩, hn, hm⟩ := h
  exact ⟨ln, ld, h1, h2, h3, by rw [h1.len]; exact hn, by rw [h2.len]; exact hm⟩
theorem ql_two {g M : Nat} (hg : g = w.heap.size) (h : RawQ w s A n c B m d p K) (h' : RawQ w t A2 n2 c2 B2 m2 d2 q L) (hK : K ≤ M) (hL : L ≤ M) :
    QL (w.alloc (.cells #[.bool s, .slice A n c, .slice B m d, .bool t, .slice A2 n2 c2, .slice B2 m2 d2] 25)) (some ⟨g, 0, none⟩) 2 2 [p, q] M := by
  obtain ⟨ln, ld, h1, h2, h3, h4, h5⟩ := h.limbs
  obtain ⟨kn, kd, k1, k2, k3, k4, k5⟩ := h'.limbs
  refine ⟨[(s, ln, ld), (t, kn, kd)], rawl_two hg h1 h2 k1 k2, by simp [ratT, h3, k3], fun x hx => ?_⟩
  simp at hx
  rcases hx with rfl | rfl
  · exact ⟨by simp; omega, by simp; omega⟩
  · exact ⟨by simp; omega, by simp; omega⟩
theorem qadd_list (h : QL w A n c qs K) (hK1 : 1 ≤ K) (hL : 1 + n * (K + 1) ≤ 1000) : Calls Try.prog 35 #[.slice A n c] w (RetQ (sumQ qs) (1 + n * (K + 1)) w) := by
  obtain ⟨ts, h1, rfl, h3⟩ := h
  exact qadd_any A n c ts w h1 K hK1 h3 hL
theorem qmul_list (h : QL w A n c qs K) (hK1 : 1 ≤ K) (hL : 1 + n * K ≤ 1000) : Calls Try.prog 32 #[.slice A n c] w (RetQ (prodQ qs) (1 + n * K) w) := by
  obtain ⟨ts, h1, rfl, h3⟩ := h
  exact qmul_any A n c ts w h1 K hK1 h3 hL
theorem qadd_pair (h : QL w A 2 2 [p, q] K) (hK1 : 1 ≤ K) (hL : K ≤ 490) : Calls Try.prog 35 #[.slice A 2 2] w (RetQ (p + q) (2 * K + 3) w) := by
  have := qadd_list h hK1 (by omega)
  rw [show sumQ [p, q] = p + q by simp only [sumQ]; grind, show 1 + 2 * (K + 1) = 2 * K + 3 by omega] at this
  exact this
theorem qmul_pair (h : QL w A 2 2 [p, q] K) (hK1 : 1 ≤ K) (hL : K ≤ 490) : Calls Try.prog 32 #[.slice A 2 2] w (RetQ (p * q) (2 * K + 1) w) := by
  have := qmul_list h hK1 (by omega)
  rw [show prodQ [p, q] = p * q by simp only [prodQ]; grind, show 1 + 2 * K = 2 * K + 1 by omega] at this
  exact this
theorem isV_can (q : Rat) : isV (qneg q) (Go.Proofs.Ytlomanhmpbapeaa.limbs q.num.natAbs) (Go.Proofs.Ytlomanhmpbapeaa.limbs q.den) q = true := by simp [isV]
theorem is_can (h : CanQ w A n c B m d q K) (hK1 : 1 ≤ K) (hK : K ≤ 10000) : Calls Try.prog 26 #[.agg #[.bool (qneg q), .slice A n c, .slice B m d]] w (Makes (.bool true) w) := by
  have := is_q _ _ _ _ _ _ _ _ _ q K w h.num h.den (by rw [val_limbs, val_limbs, ratOf_self]) h.hn h.hm hK1 hK
  rwa [isV_can] at this
theorem ris_can (h : CanQ w A n c B m d q K) (hK1 : 1 ≤ K) (hK : K ≤ 1000) : Calls Try.prog 27 #[.agg #[.bool (qneg q), .slice A n c, .slice B m d]] w (Makes (.bool true) w) := by
  have := ris_q _ _ _ _ _ _ _ _ _ q K w h.num h.den (by rw [val_limbs, val_limbs, ratOf_self]) h.hn h.hm hK1 hK
  rwa [isV_can] at this
theorem qadd_none (w : World) : Calls Try.prog 35 #[.slice none 0 0] w (RetQ 0 1 w) := by
  have := qadd_any none 0 0 [] w (RawL.nil w) 1 (by omega) (fun _ h => by simp at h) (by omega)
  simpa [sumT, sumQ] using this
theorem qmul_none (w : World) : Calls Try.prog 32 #[.slice none 0 0] w (RetQ 1 1 w) := by
  have := qmul_any none 0 0 [] w (RawL.nil w) 1 (by omega) (fun _ h => by simp at h) (by omega)
  simpa [prodT, prodQ] using this
end
theorem boxesP3 (w : World) (s : Bool) (A : Option Addr) (n c : Nat) (B : Option Addr) (m d : Nat) (t : Bool) (A2 : Option Addr) (n2 c2 : Nat) (B2 : Option Addr) (m2 d2 : Nat) (u : Bool) (A3 : Option Addr) (n3 c3 : Nat) (B3 : Option Addr) (m3 d3 : Nat) :
    ∃ W, W = ((w.alloc (.cells #[.bool s, .slice A n c, .slice B m d] 25)).alloc (.cells #[.bool t, .slice A2 n2 c2, .slice B2 m2 d2] 25)).alloc (.cells #[.bool u, .slice A3 n3 c3, .slice B3 m3 d3] 25) ∧
      Below w.heap.size w W ∧ BoxQ W w.heap.size s A n c B m d ∧ BoxQ W (w.heap.size + 1) t A2 n2 c2 B2 m2 d2 ∧ BoxQ W (w.heap.size + 1 + 1) u A3 n3 c3 B3 m3 d3 := by
  refine ⟨_, rfl, (((Below.refl _ _).alloc (Nat.le_refl _) _).alloc (by simp) _).alloc (by simp; omega) _, ((BoxQ.new w _ _ _ _ _ _ _).below (below_alloc _ _)).below (below_alloc _ _), ?_, ?_⟩
  · have := ((BoxQ.new (w.alloc (.cells #[.bool s, .slice A n c, .slice B m d] 25)) t A2 n2 c2 B2 m2 d2).below (below_alloc _ (.cells #[.bool u, .slice A3 n3 c3, .slice B3 m3 d3] 25)))
    simpa using this
  · have := BoxQ.new ((w.alloc (.cells #[.bool s, .slice A n c, .slice B m d] 25)).alloc (.cells #[.bool t, .slice A2 n2 c2, .slice B2 m2 d2] 25)) u A3 n3 c3 B3 m3 d3
    simpa using this
theorem lit_rat (w : World) (x y : Nat) (z z' : Int) (hz : z = (x : Int)) (hz' : z' = (y : Int)) (hx : x < 4294967296) (hy : y < 4294967296) (hx0 : x ≠ 0) (hy0 : y ≠ 0) :
    ∃ V, V = ((w.alloc (.cells #[.int .u32 z] 30)).alloc (.cells #[.int .u32 z'] 30)).alloc (.cells #[.bool false, .slice (some ⟨w.heap.size, 0, none⟩) 1 1, .slice (some ⟨w.heap.size + 1, 0, none⟩) 1 1] 25) ∧
      Below w.heap.size w V ∧ BoxQ V (w.heap.size + 1 + 1) false (some ⟨w.heap.size, 0, none⟩) 1 1 (some ⟨w.heap.size + 1, 0, none⟩) 1 1 ∧ RawQ V false (some ⟨w.heap.size, 0, none⟩) 1 1 (some ⟨w.heap.size + 1, 0, none⟩) 1 1 (ratOf false x y) 1 := by
  refine ⟨_, rfl, (((Below.refl _ _).alloc (Nat.le_refl _) _).alloc (by simp) _).alloc (by simp; omega) _, ?_, ?_⟩
  · have := BoxQ.new ((w.alloc (.cells #[.int .u32 z] 30)).alloc (.cells #[.int .u32 z'] 30)) false (some ⟨w.heap.size, 0, none⟩) 1 1 (some ⟨w.heap.size + 1, 0, none⟩) 1 1
    simpa using this
  · have h1 := rd_lit1 (w := w) (x := x) w.heap.size rfl z hz hx hx0
    have h2 := rd_lit1 (w := w.alloc (.cells #[.int .u32 z] 30)) (x := y) (w.heap.size + 1) (by simp) z' hz' hy hy0
    refine ⟨⟨limbs x, limbs y, (h1.below (below_alloc _ _)).below (below_alloc _ _), h2.below (below_alloc _ _), by rw [val_limbs, val_limbs]⟩, Nat.le_refl _, Nat.le_refl _⟩
end Go.Proofs.Ytlomanhmpbapeaa
