/- The walk of rational.Dot. -/
import Derived.Test.YtlomanhmpbapeaaRatDiv
namespace Go.Proofs.Ytlomanhmpbapeaa
open Go.RowKit

def dotT (ts us : List RatT) : Rat := dotQ (ts.map ratT) (us.map ratT)
theorem dotT_take {ts us : List RatT} {j : Nat} (h : j < ts.length) (h' : j < us.length) : dotT (ts.take (j + 1)) (us.take (j + 1)) = dotT (ts.take j) (us.take j) + ratT (ts.getD j (false, [], [])) * ratT (us.getD j (false, [], [])) := by
  unfold dotT
  rw [List.map_take, List.map_take, List.map_take, List.map_take, dotQ_take (by simpa using h) (by simpa using h'), getD_map_ratT h, getD_map_ratT h']
theorem mem_getD {ts : List RatT} {j : Nat} (h : j < ts.length) : ts.getD j (false, [], []) ∈ ts := by
  rw [List.getD_eq_getElem?_getD, List.getElem?_eq_getElem h]
  exact List.getElem_mem h
theorem dotT_nil (ts us : List RatT) : dotT (ts.take 0) (us.take 0) = 0 := rfl

set_option maxHeartbeats 8000000 in
theorem qdot_shape (A : Option Addr) (n c : Nat) (A2 : Option Addr) (n2 c2 : Nat) (w : World) (hne : n ≠ n2) :
    Calls Try.prog 39 #[.slice A n c, .slice A2 n2 c2] w (ErrQ 3 w) := by
  obtain ⟨W, hW, hS, q3⟩ := box1 w false none 0 0 none 0 0
  have HW := hide hW
  have hx : ((n : Int) == (n2 : Int)) = false := by simp; omega
  have hcg := q3.cells
  have hfg := q3.free
  clear hW hne
  go_enter Try.func39, Try.ntmps39
  go_wp2_with fail
  rw [← HW.out]
  go_wp2
  exact bodyPost_ret (v := .tuple #[.agg #[.bool false, .slice none 0 0, .slice none 0 0], .int .i64 3]) (by simp [results, Try.results39, go_sem, hcg]) rfl ⟨rfl, by first | exact hS | exact below3 hS (Nat.le_refl _) _ _ _⟩

set_option maxHeartbeats 8000000 in
theorem qdot_ok (A : Option Addr) (n c : Nat) (ts : List RatT) (A2 : Option Addr) (c2 : Nat) (us : List RatT) (w : World) (h : RawL w A n c ts) (h' : RawL w A2 n c2 us) (K : Nat) (hK1 : 1 ≤ K) (hs : ShortT K ts ∧ ShortT K us) (hKK : K ≤ 100) (hL : 1 + n * (2 * K + 2) ≤ 800) :
    Calls Try.prog 39 #[.slice A n c, .slice A2 n c2] w (RetQE (dotT ts us) (1 + n * (2 * K + 2)) w) := by
  have h63 := h.le63
  have HT := hide h.len
  have HU := hide h'.len
  have HSH := hide hs
  have HL := hide hL
  obtain ⟨W0, hW0, hS0, q2⟩ := box1 w false none 0 0 none 0 0
  have HW0 := hide hW0
  have hz0 : W0.heap.size = w.heap.size + 1 := by rw [hW0]; simp
  have HZ0 := hide hz0
  clear hW0 hs hL hz0
  go_enter Try.func39, Try.ntmps39
  go_wp2_with fail
  rw [← HW0.out]
  refine (qone_any _).mono ?_
  rintro e w1 ⟨rfl, rfl⟩
  have hone := rd_one W0 W0.heap.size rfl
  have hcan0 := (can_zero (K := 1) hone (Nat.le_refl _)).below (below_alloc _ (.cells #[.bool false, .slice none 0 0, .slice (some ⟨W0.heap.size, 0, none⟩) 1 1] 25))
  have q3 := BoxQ.new (W0.alloc (.cells #[.int .u32 1] 30)) false none 0 0 (some ⟨W0.heap.size, 0, none⟩) 1 1
  have e3 : (W0.alloc (.cells #[.int .u32 1] 30)).heap.size = W0.heap.size + 1 := by simp
  rw [e3] at q3
  have hB1 : Below w.heap.size w ((W0.alloc (.cells #[.int .u32 1] 30)).alloc (.cells #[.bool false, .slice none 0 0, .slice (some ⟨W0.heap.size, 0, none⟩) 1 1] 25)) := below_step (below_alloc _ _) (below_step (below_alloc _ _) hS0)
  have q2b := (q2.below (below_alloc _ (.cells #[.int .u32 1] 30))).below (below_alloc _ (.cells #[.bool false, .slice none 0 0, .slice (some ⟨W0.heap.size, 0, none⟩) 1 1] 25))
  have hg3 : w.heap.size + 1 ≤ W0.heap.size := by rw [HZ0.out]; exact Nat.le_refl _
  clear e3 hone q2
  go_wp2_with fail
  go_loopw [18] (fun i wr => ∃ (j : Nat) (As : Option Addr) (ns cs : Nat) (Bs : Option Addr) (ms ds : Nat), j ≤ n ∧ i = .int .i64 (j : Int) ∧ BoxQ wr (W0.heap.size + 1) (qneg (dotT (ts.take j) (us.take j))) As ns cs Bs ms ds ∧ CanQ wr As ns cs Bs ms ds (dotT (ts.take j) (us.take j)) (1 + j * (2 * K + 2)) ∧ BoxQ wr w.heap.size false none 0 0 none 0 0 ∧ Below w.heap.size w wr) (fun i _ => n - (intOf i).toNat)
  case atStart => exact ⟨0, _, _, _, _, _, _, Nat.zero_le _, rfl, q3, hcan0.wide (by omega), q2b, hB1⟩
  case round =>
    clear q3 hcan0 q2b hB1
    obtain ⟨j, As, ns, cs, Bs, ms, ds, hj, rfl, q3, hcan, q2, hS⟩ := hrel
    by_cases hlt : j < n
    · skip

      have hjt : j < ts.length := by rw [HT.out]; exact hlt
      have hju : j < us.length := by rw [HU.out]; exact hlt
      have HST := hide (dotT_take hjt hju)
      obtain ⟨hr1, hr2⟩ := HSH.out.1 _ (mem_getD hjt)
      obtain ⟨hr3, hr4⟩ := HSH.out.2 _ (mem_getD hju)
      obtain ⟨b, off, rfl, hb, hcells⟩ := (h.below hS).cells (by omega)
      obtain ⟨b2, off2, rfl, hb2, hcells2⟩ := (h'.below hS).cells (by omega)
      obtain ⟨An, nn, cn, Ad, nd, cd, i1, i2, i3, i4, i5⟩ := hcells j hlt
      obtain ⟨An2, nn2, cn2, Ad2, nd2, cd2, j1, j2, j3, j4, j5⟩ := hcells2 j hlt
      have hnn : nn ≤ K := by rw [← i4.len]; exact hr1
      have hnd : nd ≤ K := by rw [← i5.len]; exact hr2
      have hnn2 : nn2 ≤ K := by rw [← j4.len]; exact hr3
      have hnd2 : nd2 ≤ K := by rw [← j5.len]; exact hr4
      have HX : Hid (1 + (j + 1) * (2 * K + 2) = 1 + j * (2 * K + 2) + (2 * K + 1) + 1) := by rw [Hid, Nat.succ_mul]; omega
      have hbnd : (j + 1) * (2 * K + 2) ≤ n * (2 * K + 2) := Nat.mul_le_mul_right _ hlt
      have hX0 : 1 + j * (2 * K + 2) + (2 * K + 1) + 1 ≤ 800 := by have := HL.out; have := HX.out; omega
      have hX1 : 1 ≤ 1 + j * (2 * K + 2) := by omega
      clear hcells hcells2 hjt hju hr1 hr2 hr3 hr4 hbnd
      generalize ts.getD j (false, [], []) = t at *
      generalize us.getD j (false, [], []) = u at *
      generalize 1 + j * (2 * K + 2) = X at *
      generalize hSj : dotT (ts.take j) (us.take j) = Sj at *
      obtain ⟨s, ln, ld⟩ := t
      obtain ⟨s2, kn, kd⟩ := u
      simp only at i1 i4 i5 j1 j4 j5
      have hraw : RawQ wr s An nn cn Ad nd cd (ratT (s, ln, ld)) K := ⟨⟨ln, ld, i4, i5, rfl⟩, hnn, hnd⟩
      have hraw2 : RawQ wr s2 An2 nn2 cn2 Ad2 nd2 cd2 (ratT (s2, kn, kd)) K := ⟨⟨kn, kd, j4, j5, rfl⟩, hnn2, hnd2⟩
      generalize ratT (s, ln, ld) = p at *
      generalize ratT (s2, kn, kd) = q at *
      have I1 := hide i1
      have I2 := hide i2
      have I3 := hide i3
      have J1 := hide j1
      have J2 := hide j2
      have J3 := hide j3
      have Q3 := hide q3
      have Q2 := hide q2
      have hj0 : (0 : Int) ≤ (j : Int) := by omega
      have hjn : (j : Int) < (n : Int) := by omega
      have hz3 := q3.2
      have hz2 := q2.2
      clear i1 i2 i3 i4 i5 j1 j2 j3 j4 j5 q3 q2 hSj h h' hlt
      go_wp2_with fail
      refine wp_region_tab 12 35 [IsV (.agg #[.bool (qneg Sj), .slice As ns cs, .slice Bs ms ds]), IsV (.slice (some ⟨b, off, none⟩) n c), IsV (.int .i64 (j : Int)), IsV (.pointer (some ⟨b, off + j * 3, none⟩)), IsV (.agg #[.bool s, .slice An nn cn, .slice Ad nd cd]), IsV (.slice (some ⟨b2, off2, none⟩) n c2), IsV (.int .i64 (j : Int)), IsV (.pointer (some ⟨b2, off2 + j * 3, none⟩)), IsV (.agg #[.bool s2, .slice An2 nn2 cn2, .slice Ad2 nd2 cd2]), IsQL [p, q] K, IsQ (p * q) (2 * K + 1), IsQ (Sj + p * q) (X + (2 * K + 1) + 1)] (From wr) (by kernel_rfl) (by kernel_rfl) (by kernel_rfl) rfl From.lasting (From.drew (From.refl _)) ?_
      simp only [List.take_succ_cons, List.drop_succ_cons, List.take_zero, List.drop_zero]
      refine Tab.cons IsV.lasting (fun wx hx hd => ?_) (fun v21 => ?_)
      · skip
        clear hd
        intro KK hK
        have hcell := (Q3.out.later hx).cells
        go_simp
        exact hK.out _ _ rfl (Below.refl _ _)
      simp only [Act.put, List.setIfInBounds_toArray, List.set_cons_zero, List.set_cons_succ]
      refine Tab.cons IsV.lasting (fun wx hx hd => ?_) (fun v22 => ?_)
      · skip
        clear hd
        intro KK hK
        go_simp
        exact hK.out _ _ rfl (Below.refl _ _)
      simp only [Act.put, List.setIfInBounds_toArray, List.set_cons_zero, List.set_cons_succ]
      refine Tab.cons IsV.lasting (fun wx hx hd => ?_) (fun v23 => ?_)
      · skip
        clear hd
        intro KK hK
        go_simp
        exact hK.out _ _ rfl (Below.refl _ _)
      simp only [Act.put, List.setIfInBounds_toArray, List.set_cons_zero, List.set_cons_succ]
      refine Tab.cons IsV.lasting (fun wx hx hd => ?_) (fun v24 => ?_)
      · skip
        have e22 : v22 = _ := (hd _ (.tail _ (.head _)) (by kernel_rfl) : (IsV (.slice (some ⟨b, off, none⟩) n c)) v22 wx)
        subst e22
        have e23 : v23 = _ := (hd _ (.head _) (by kernel_rfl) : (IsV (.int .i64 (j : Int))) v23 wx)
        subst e23
        clear hd
        intro KK hK
        go_simp
        exact hK.out _ _ rfl (Below.refl _ _)
      simp only [Act.put, List.setIfInBounds_toArray, List.set_cons_zero, List.set_cons_succ]
      refine Tab.cons IsV.lasting (fun wx hx hd => ?_) (fun v25 => ?_)
      · skip
        have e24 : v24 = _ := (hd _ (.head _) (by kernel_rfl) : (IsV (.pointer (some ⟨b, off + j * 3, none⟩))) v24 wx)
        subst e24
        clear hd
        intro KK hK
        have c1 := (hx.out.cell (p := ⟨b, off + j * 3, none⟩) hb).trans I1.out
        have c2 := (hx.out.cell (p := ⟨b, off + j * 3 + 1, none⟩) hb).trans I2.out
        have c3 := (hx.out.cell (p := ⟨b, off + j * 3 + 2, none⟩) hb).trans I3.out
        go_simp
        exact hK.out _ _ rfl (Below.refl _ _)
      simp only [Act.put, List.setIfInBounds_toArray, List.set_cons_zero, List.set_cons_succ]
      refine Tab.cons IsV.lasting (fun wx hx hd => ?_) (fun v26 => ?_)
      · skip
        clear hd
        intro KK hK
        go_simp
        exact hK.out _ _ rfl (Below.refl _ _)
      simp only [Act.put, List.setIfInBounds_toArray, List.set_cons_zero, List.set_cons_succ]
      refine Tab.cons IsV.lasting (fun wx hx hd => ?_) (fun v27 => ?_)
      · skip
        clear hd
        intro KK hK
        go_simp
        exact hK.out _ _ rfl (Below.refl _ _)
      simp only [Act.put, List.setIfInBounds_toArray, List.set_cons_zero, List.set_cons_succ]
      refine Tab.cons IsV.lasting (fun wx hx hd => ?_) (fun v28 => ?_)
      · skip
        have e26 : v26 = _ := (hd _ (.tail _ (.head _)) (by kernel_rfl) : (IsV (.slice (some ⟨b2, off2, none⟩) n c2)) v26 wx)
        subst e26
        have e27 : v27 = _ := (hd _ (.head _) (by kernel_rfl) : (IsV (.int .i64 (j : Int))) v27 wx)
        subst e27
        clear hd
        intro KK hK
        go_simp
        exact hK.out _ _ rfl (Below.refl _ _)
      simp only [Act.put, List.setIfInBounds_toArray, List.set_cons_zero, List.set_cons_succ]
      refine Tab.cons IsV.lasting (fun wx hx hd => ?_) (fun v29 => ?_)
      · skip
        have e28 : v28 = _ := (hd _ (.head _) (by kernel_rfl) : (IsV (.pointer (some ⟨b2, off2 + j * 3, none⟩))) v28 wx)
        subst e28
        clear hd
        intro KK hK
        have c1 := (hx.out.cell (p := ⟨b2, off2 + j * 3, none⟩) hb2).trans J1.out
        have c2 := (hx.out.cell (p := ⟨b2, off2 + j * 3 + 1, none⟩) hb2).trans J2.out
        have c3 := (hx.out.cell (p := ⟨b2, off2 + j * 3 + 2, none⟩) hb2).trans J3.out
        go_simp
        exact hK.out _ _ rfl (Below.refl _ _)
      simp only [Act.put, List.setIfInBounds_toArray, List.set_cons_zero, List.set_cons_succ]
      refine Tab.cons IsQL.lasting (fun wx hx hd => ?_) (fun v30 => ?_)
      · skip
        have e25 : v25 = _ := (hd _ (.tail _ (.tail _ (.tail _ (.tail _ (.head _))))) (by kernel_rfl) : (IsV (.agg #[.bool s, .slice An nn cn, .slice Ad nd cd])) v25 wx)
        subst e25
        have e29 : v29 = _ := (hd _ (.head _) (by kernel_rfl) : (IsV (.agg #[.bool s2, .slice An2 nn2 cn2, .slice Ad2 nd2 cd2])) v29 wx)
        subst e29
        clear hd
        intro KK hK
        go_simp
        exact hK.out _ _ ⟨_, rfl, ql_two rfl (hraw.below hx.out) (hraw2.below hx.out) (Nat.le_refl _) (Nat.le_refl _)⟩ (below_alloc _ _)
      simp only [Act.put, List.setIfInBounds_toArray, List.set_cons_zero, List.set_cons_succ]
      refine Tab.cons IsQ.lasting (fun wx hx hd => ?_) (fun v31 => ?_)
      · skip
        obtain ⟨g30, rfl, h30⟩ := (hd _ (.head _) (by kernel_rfl) : (IsQL [p, q] K) v30 wx)
        clear hd
        intro KK hK
        go_simp
        refine (qmul_pair h30 hK1 (by omega)).mono ?_
        rintro e w' ⟨A', n', c', B', m', d', rfl, hc', hb'⟩
        exact hK.out _ _ ⟨A', n', c', B', m', d', rfl, hc'⟩ hb'
      simp only [Act.put, List.setIfInBounds_toArray, List.set_cons_zero, List.set_cons_succ]
      refine Tab.cons IsQ.lasting (fun wx hx hd => ?_) (fun v32 => ?_)
      · skip
        have e21 : v21 = _ := (hd _ (.tail _ (.tail _ (.tail _ (.tail _ (.tail _ (.tail _ (.tail _ (.tail _ (.tail _ (.tail _ (.head _))))))))))) (by kernel_rfl) : (IsV (.agg #[.bool (qneg Sj), .slice As ns cs, .slice Bs ms ds])) v21 wx)
        subst e21
        obtain ⟨A31, n31, c31, B31, m31, d31, rfl, h31⟩ := (hd _ (.head _) (by kernel_rfl) : (IsQ (p * q) (2 * K + 1)) v31 wx)
        clear hd
        intro KK hK
        go_simp
        refine (qplus_any _ _ _ _ _ _ _ _ X _ _ _ _ _ _ _ (2 * K + 1) (hcan.below hx.out) h31 (by omega) (by omega)).mono ?_
        rintro e w' ⟨A', n', c', B', m', d', rfl, hc', hb'⟩
        exact hK.out _ _ ⟨A', n', c', B', m', d', rfl, hc'⟩ hb'
      simp only [Act.put, List.setIfInBounds_toArray, List.set_cons_zero, List.set_cons_succ]
      refine Tab.nil fun wx hx hd => ?_
      obtain ⟨A32, n32, c32, B32, m32, d32, rfl, h32⟩ := (hd _ (.head _) : (IsQ (Sj + p * q) (X + (2 * K + 1) + 1)) v32 wx)
      clear hd
      have hc3 := (Q3.out.later hx).cells
      have hf3 := (Q3.out.later hx).free
      go_wp2
      go_roundw
      case rel => exact ⟨j + 1, A32, n32, c32, B32, m32, d32, by omega, by go_num, by rw [HST.out]; exact (Q3.out.later hx).store3 _ _ _ _ _ _ _, by rw [HST.out, HX.out]; exact CanQ.store3 h32 (Q3.out.later hx).noNum, BoxQ.only (g' := W0.heap.size + 1) (Q2.out.later hx) (only3 _ _ _ _ _) (by omega), Below.up3 (by omega) (below_step hx.out hS)⟩
      case measure => simp [intOf]; omega
    · obtain rfl : j = n := by omega
      have hall : ts.take j = ts := List.take_of_length_le (by rw [HT.out]; exact Nat.le_refl _)
      have hall2 : us.take j = us := List.take_of_length_le (by rw [HU.out]; exact Nat.le_refl _)
      rw [hall, hall2] at q3 hcan
      have hcs := q3.cells
      have hcg := q2.cells
      have hfg := q2.free
      have hno := q2.noNum
      clear hall hall2
      go_wp2
      exact bodyPost_ret (v := .tuple #[.agg #[.bool (qneg (dotT ts us)), .slice As ns cs, .slice Bs ms ds], .int .i64 0]) (by simp [results, Try.results39, go_sem, hcg]) rfl ⟨As, ns, cs, Bs, ms, ds, rfl, hcan.store3 hno, below3 hS (Nat.le_refl _) _ _ _⟩
end Go.Proofs.Ytlomanhmpbapeaa
