/- The walk of rational.Add. -/
import Derived.Test.YtlomanhmpbapeaaRatLong
namespace Go.Proofs.Ytlomanhmpbapeaa
open Go.RowKit

theorem BoxQ.store3 {w : World} {g : Nat} {s : Bool} {A B : Option Addr} {n c m d : Nat} (h : BoxQ w g s A n c B m d) (s' : Bool) (A' : Option Addr) (n' c' : Nat) (B' : Option Addr) (m' d' : Nat) :
    BoxQ (((w.setCell ⟨g, 0, none⟩ (.bool s')).setCell ⟨g, 1, none⟩ (.slice A' n' c')).setCell ⟨g, 2, none⟩ (.slice B' m' d')) g s' A' n' c' B' m' d' := by
  refine ⟨?_, by simpa [World.setCell] using h.2⟩
  simp [World.setCell, Array.getElem?_modify, h.1]
theorem BoxQ.drew {w : World} {g : Nat} {s : Bool} {A B : Option Addr} {n c m d : Nat} (h : BoxQ w g s A n c B m d) : BoxQ w.drew g s A n c B m d := h
theorem Below.up3 {W w : World} {g : Nat} {a b e : Value} (hg : W.heap.size ≤ g) (h : Below W.heap.size W w) : Below W.heap.size W (((w.setCell ⟨g, 0, none⟩ a).setCell ⟨g, 1, none⟩ b).setCell ⟨g, 2, none⟩ e) := below3 h hg a b e

/-- All numbers have at most K limbs. -/
def ShortT (K : Nat) (ts : List RatT) : Prop := ∀ t ∈ ts, t.2.1.length ≤ K ∧ t.2.2.length ≤ K
def sumT (ts : List RatT) : Rat := sumQ (ts.map ratT)
def prodT (ts : List RatT) : Rat := prodQ (ts.map ratT)
theorem getD_map_ratT {ts : List RatT} {j : Nat} (h : j < ts.length) : (ts.map ratT).getD j 0 = ratT (ts.getD j (false, [], [])) := by
  simp [List.getD_eq_getElem?_getD, h]
theorem sumT_take {ts : List RatT} {j : Nat} (h : j < ts.length) : sumT (ts.take (j + 1)) = sumT (ts.take j) + ratT (ts.getD j (false, [], [])) := by
  unfold sumT
  rw [List.map_take, List.map_take, sumQ_take (by simpa using h), getD_map_ratT h]
theorem prodT_take {ts : List RatT} {j : Nat} (h : j < ts.length) : prodT (ts.take (j + 1)) = prodT (ts.take j) * ratT (ts.getD j (false, [], [])) := by
  unfold prodT
  rw [List.map_take, List.map_take, prodQ_take (by simpa using h), getD_map_ratT h]

set_option maxHeartbeats 4000000 in
theorem qadd_any (A : Option Addr) (n c : Nat) (ts : List RatT) (w : World) (h : RawL w A n c ts) (K : Nat) (hK1 : 1 ≤ K) (hs : ShortT K ts) (hL : 1 + n * (K + 1) ≤ 1000) :
    Calls Try.prog 35 #[.slice A n c] w (RetQ (sumT ts) (1 + n * (K + 1)) w) := by
  have h63 := h.le63
  have HLEN := hide h.len
  have HSH := hide hs
  have HL := hide hL
  have hK : K ≤ 1000 ∨ n = 0 := by
    rcases Nat.eq_zero_or_pos n with h0 | h0
    · exact .inr h0
    · left
      have : 1 * (K + 1) ≤ n * (K + 1) := Nat.mul_le_mul_right _ h0
      omega
  obtain ⟨W0, hW0, hS0, q2⟩ := box1 w false none 0 0 none 0 0
  have HW0 := hide hW0
  have hz0 : W0.heap.size = w.heap.size + 1 := by rw [hW0]; simp
  have HZ0 := hide hz0
  clear hW0 hs hL hz0
  go_enter Try.func35, Try.ntmps35
  go_wp2_with fail
  rw [← HW0.out]
  refine (qone_any _).mono ?_
  rintro e w1 ⟨rfl, rfl⟩
  have hone := rd_one W0 W0.heap.size rfl
  have hcan0 := (can_zero (K := 1) hone (Nat.le_refl _)).below (below_alloc _ (.cells #[.bool false, .slice none 0 0, .slice (some ⟨W0.heap.size, 0, none⟩) 1 1] 25))
  have q3 := BoxQ.new (W0.alloc (.cells #[.int .u32 1] 30)) false none 0 0 (some ⟨W0.heap.size, 0, none⟩) 1 1
  have e3 : (W0.alloc (.cells #[.int .u32 1] 30)).heap.size = W0.heap.size + 1 := by simp
  rw [e3] at q3
  have hB1 : Below w.heap.size w ((W0.alloc (.cells #[.int .u32 1] 30)).alloc (.cells #[.bool false, .slice none 0 0, .slice (some ⟨W0.heap.size, 0, none⟩) 1 1] 25)) := below_step (below_alloc _ _) (below_step (below_alloc _ _) hS0)
  have q2b := (q2.below (below_alloc _ (.cells #[.int .u32 1] 30))).below (below_alloc _ (.cells #[.bool false, .slice none 0 0, .slice (some ⟨W0.heap.size, 0, none⟩) 1 1] 25))
  have hg3 : w.heap.size + 1 ≤ W0.heap.size := by rw [HZ0.out]; exact Nat.le_refl _
  clear e3 hone q2
  go_wp2_with fail
  go_loopw [10] (fun i wr => ∃ (j : Nat) (As : Option Addr) (ns cs : Nat) (Bs : Option Addr) (ms ds : Nat), j ≤ n ∧ i = .int .i64 (j : Int) ∧ BoxQ wr (W0.heap.size + 1) (qneg (sumT (ts.take j))) As ns cs Bs ms ds ∧ CanQ wr As ns cs Bs ms ds (sumT (ts.take j)) (1 + j * (K + 1)) ∧ BoxQ wr w.heap.size false none 0 0 none 0 0 ∧ Below w.heap.size w wr) (fun i _ => n - (intOf i).toNat)
  case atStart => exact ⟨0, _, _, _, _, _, _, Nat.zero_le _, rfl, q3, hcan0.wide (by omega), q2b, hB1⟩
  case round =>
    clear q3 hcan0 q2b hB1
    obtain ⟨j, As, ns, cs, Bs, ms, ds, hj, rfl, q3, hcan, q2, hS⟩ := hrel
    by_cases hlt : j < n
    · obtain ⟨b, off, rfl, hb, hcells⟩ := (h.below hS).cells (by omega)
      obtain ⟨An, nn, cn, Ad, nd, cd, g1, g2, g3, g4, g5⟩ := hcells j hlt
      have hjl : j < ts.length := by rw [HLEN.out]; exact hlt
      have HST := hide (sumT_take hjl)
      have hmem : ts.getD j (false, [], []) ∈ ts := by
        rw [List.getD_eq_getElem?_getD, List.getElem?_eq_getElem hjl]
        exact List.getElem_mem hjl
      obtain ⟨hr1, hr2⟩ := HSH.out _ hmem
      have hnn : nn ≤ K := by rw [← g4.len]; exact hr1
      have hnd : nd ≤ K := by rw [← g5.len]; exact hr2
      have hbnd : (j + 1) * (K + 1) ≤ n * (K + 1) := Nat.mul_le_mul_right _ hlt
      have HX : Hid (1 + (j + 1) * (K + 1) = 1 + j * (K + 1) + K + 1) := by rw [Hid, Nat.succ_mul]; omega
      have hX0 : 1 + j * (K + 1) + K + 1 ≤ 1000 := by rw [← HX.out]; have := HL.out; omega
      have hX1 : 1 ≤ 1 + j * (K + 1) := by omega
      clear hcells hjl hmem hr1 hr2 hbnd hK
      generalize ts.getD j (false, [], []) = t at *
      generalize 1 + j * (K + 1) = X at *
      generalize hSj : sumT (ts.take j) = Sj at *
      obtain ⟨s, ln, ld⟩ := t
      simp only at g1 g4 g5
      have hraw : RawQ wr s An nn cn Ad nd cd (ratT (s, ln, ld)) K := ⟨⟨ln, ld, g4, g5, rfl⟩, hnn, hnd⟩
      generalize ratT (s, ln, ld) = qt at *
      obtain ⟨W, hW, hSW, q5⟩ := box1 wr s An nn cn Ad nd cd
      have HW := hide hW
      have hraw' := hraw.below hSW
      have hcanW := hcan.below hSW
      have hBW := below_step hSW hS
      have hz3 := q3.2
      have Q3 := hide (q3.below hSW)
      have Q2 := hide (q2.below hSW)
      have Q5 := hide q5
      have hcA := q3.cells
      clear hW hraw hcan q5 hSj g4 g5 h
      go_wp2_with fail
      rw [← HW.out]
      clear g1 g2 g3 hcA q2 q3
      have hc3 := Q3.out.cells
      have hc5 := Q5.out.cells
      have hf3 := Q3.out.free
      have hF := From.refl W
      go_region_with (first
          | (go_at_call 24; (with_reducible refine (trim_q _ _ _ _ _ _ _ _ K _ (by repeat (first | with_reducible assumption | with_reducible apply RawQ.drew | with_reducible apply RawQ.upAlloc | ((with_reducible apply RawQ.up); (with_reducible assumption)))) hK1 (by omega)).mono ?_); rintro e w' ⟨A', n', c', B', m', d', rfl, h', hb'⟩; have hF' : From W w' := From.step (by repeat (first | with_reducible assumption | with_reducible apply From.drew | with_reducible apply From.alloc)) hb'; have hc3' := (Q3.out.later hF').cells; have hf3' := (Q3.out.later hF').free)
          | (go_at_call 69; (with_reducible refine (qplus_any _ _ _ _ _ _ _ _ X _ _ _ _ _ _ _ K (by repeat (first | with_reducible assumption | with_reducible apply CanQ.drew | with_reducible apply CanQ.upAlloc | ((with_reducible apply CanQ.up); (with_reducible assumption)))) (by repeat (first | with_reducible assumption | with_reducible apply CanQ.drew | with_reducible apply CanQ.upAlloc | ((with_reducible apply CanQ.up); (with_reducible assumption)))) (by omega) (by omega)).mono ?_); rintro e w' ⟨A2', n2', c2', B2', m2', d2', rfl, h2', hb2'⟩; have hF2' : From W w' := From.step (by repeat (first | with_reducible assumption | with_reducible apply From.drew | with_reducible apply From.alloc)) hb2'; have hc3' := (Q3.out.later hF2').cells; have hf3' := (Q3.out.later hF2').free))
      all_goals
        go_wp2
        go_roundw
        case rel =>
          refine ⟨j + 1, A2', n2', c2', B2', m2', d2', by omega, by go_num, ?_, ?_, ?_, ?_⟩
          · rw [HST.out]; exact (Q3.out.later hF2').store3 _ _ _ _ _ _ _
          · rw [HST.out, HX.out]; exact CanQ.store3 h2' (Q3.out.later hF2').noNum
          · exact BoxQ.only (g' := W0.heap.size + 1) (Q2.out.later hF2') (only3 _ _ _ _ _) (by omega)
          · exact Below.up3 (by omega) (below_step hF2'.out hBW)
        case measure => simp [intOf]; omega
    · obtain rfl : j = n := by omega
      have hall : ts.take j = ts := List.take_of_length_le (by rw [HLEN.out]; exact Nat.le_refl _)
      rw [hall] at q3 hcan
      have hcs := q3.cells
      have hcg := q2.cells
      have hfg := q2.free
      have hno := q2.noNum
      clear hall
      go_wp2
      exact bodyPost_ret (v := .agg #[.bool (qneg (sumT ts)), .slice As ns cs, .slice Bs ms ds]) (by simp [results, Try.results35, go_sem, hcg]) rfl ⟨As, ns, cs, Bs, ms, ds, rfl, hcan.store3 hno, below3 hS (Nat.le_refl _) _ _ _⟩
end Go.Proofs.Ytlomanhmpbapeaa
