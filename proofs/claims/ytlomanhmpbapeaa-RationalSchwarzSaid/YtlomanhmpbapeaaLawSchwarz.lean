/- The walk of the law RationalSchwarz. -/
import Derived.Test.YtlomanhmpbapeaaRatRdot
import Derived.Test.YtlomanhmpbapeaaRatErr
namespace Go.Proofs.Ytlomanhmpbapeaa
open Go.RowKit

theorem RawL.take {w : World} {A : Option Addr} {n c k : Nat} {ts : List RatT} (h : RawL w A n c ts) (hk : k ≤ n) : RawL w A k c (ts.take k) :=
  ⟨by rw [List.length_take, h.len]; omega, Nat.le_trans hk h.cap, h.max, fun hn => by
    obtain ⟨b, off, e, hlt, hc⟩ := h.cells (by omega)
    refine ⟨b, off, e, hlt, fun j hj => ?_⟩
    have e1 : (ts.take k).getD j (false, [], []) = ts.getD j (false, [], []) := by simp [List.getD_eq_getElem?_getD, hj]
    rw [e1]
    exact hc j (by omega)⟩
theorem ShortT.take {K k : Nat} {ts : List RatT} (h : ShortT K ts) : ShortT K (ts.take k) := fun t ht => h t (List.mem_of_mem_take ht)
theorem cauchyT (ts us : List RatT) (h : ts.length = us.length) : cmpQ (dotT ts us * dotT ts us) (dotT ts ts * dotT us us) ≤ 0 := cmpQ_le.2 (cauchy _ _ (by simpa using h))

set_option maxHeartbeats 8000000 in
set_option maxRecDepth 10000 in
theorem law_RationalSchwarz (w : World) (A : Option Addr) (n c : Nat) (ts : List RatT) (h : RawL w A n c ts) (ht : Reach ts) (hn : n ≤ 35184372088832) (A2 : Option Addr) (n2 c2 : Nat) (us : List RatT) (h' : RawL w A2 n2 c2 us) (ht' : Reach us) (hn' : n2 ≤ 35184372088832) :
    Calls Try.prog 14 #[.slice A n c, .slice A2 n2 c2] w (Makes (.bool true) w) := by
  have hcall := longq_any 4 A n c ts w h ht (by omega)
  cases hl1 : anyLongQ 4 ts with
  | true =>
    rw [hl1] at hcall
    clear hl1
    go_enter Try.func14, Try.ntmps14
    go_wp2_with fail
    refine hcall.mono ?_
    rintro e w1 ⟨rfl, hb1⟩
    clear hcall
    go_wp2
    go_ret
    exact ⟨rfl, hb1⟩
  | false =>
    rw [hl1] at hcall
    have hs1 : ShortT 4 ts := fun t hm => by have := anyLongQ_false hl1 t hm; omega
    clear hl1
    cases hl2 : anyLongQ 4 us with
    | true =>
      go_enter Try.func14, Try.ntmps14
      go_wp2_with fail
      refine hcall.mono ?_
      rintro e w1 ⟨rfl, hb1⟩
      clear hcall
      have hcall := longq_any 4 A2 n2 c2 us w1 (h'.below hb1) ht' (by omega)
      rw [hl2] at hcall
      clear hl2
      go_wp2_with fail
      refine hcall.mono ?_
      rintro e w2 ⟨rfl, hb2⟩
      clear hcall
      go_wp2
      go_ret
      exact ⟨rfl, below_step hb2 hb1⟩
    | false =>
      have hs2 : ShortT 4 us := fun t hm => by have := anyLongQ_false hl2 t hm; omega
      have n1 := h.le63
      have n2' := h'.le63
      go_enter Try.func14, Try.ntmps14
      go_wp2_with fail
      refine hcall.mono ?_
      rintro e w1 ⟨rfl, hb1⟩
      clear hcall
      have hcall := longq_any 4 A2 n2 c2 us w1 (h'.below hb1) ht' (by omega)
      rw [hl2] at hcall
      clear hl2
      go_wp2_with fail
      refine hcall.mono ?_
      rintro e w2 ⟨rfl, hb2⟩
      have hB := below_step hb2 hb1
      replace h := h.below hB
      replace h' := h'.below hB
      clear hcall hb1 hb2 ht ht'
      obtain ⟨k, hk⟩ : ∃ k, k = min (min n n2) 8 := ⟨_, rfl⟩
      have hk1 : k ≤ n := by omega
      have hk2 : k ≤ n2 := by omega
      have hk8 : k ≤ 8 := by omega
      have hcap1 : n ≤ c := h.cap
      have hcap2 : n2 ≤ c2 := h'.cap
      have L1 := hide (h.take hk1)
      have L2 := hide (h'.take hk2)
      have S1 := hide (hs1.take (k := k))
      have S2 := hide (hs2.take (k := k))
      have hlen : (ts.take k).length = (us.take k).length := by rw [L1.out.len, L2.out.len]
      have HC := hide (cauchyT (ts.take k) (us.take k) hlen)
      clear hs1 hs2 hlen h h'
      generalize ts.take k = ps at *
      generalize us.take k = qs at *
      have hbnd : k * (2 * 4 + 2) ≤ 8 * (2 * 4 + 2) := Nat.mul_le_mul_right _ hk8
      have HB := hide hbnd
      obtain ⟨X, hX⟩ : ∃ D, D = dotT ps qs := ⟨_, rfl⟩
      obtain ⟨Y, hY⟩ : ∃ D, D = dotT ps ps := ⟨_, rfl⟩
      obtain ⟨Z, hZ⟩ : ∃ D, D = dotT qs qs := ⟨_, rfl⟩
      rw [← hX, ← hY, ← hZ] at HC
      have HX := hide hX.symm
      have HY := hide hY.symm
      have HZ := hide hZ.symm
      have hkm : Hid (k = min (min n n2) 8) := hk
      have hK0 : (0 : Int) ≤ (k : Int) := by omega
      have hKc : (k : Int) ≤ (c : Int) := by omega
      have hKc2 : (k : Int) ≤ (c2 : Int) := by omega
      clear hX hY hZ hbnd hk
      have hF := From.refl w2
      go_upto_region 3 with (fail)
      go_cut [5] from 18 to 22 (fun v5 wx => v5 = .int .i64 (k : Int) ∧ wx = w2)
      case first =>
        go_wp2
        all_goals
          go_meet
          case rel => exact ⟨int_val (by have := hkm.out; omega), rfl⟩
      case rest =>
        obtain ⟨rfl, rfl⟩ := hcut
        go_wp2_with fail
        obtain ⟨W, hW⟩ : ∃ W : World, W = wc := ⟨_, rfl⟩
        subst hW
        replace hF := From.refl W
        go_cut [6, 7] from 24 to 32 (fun vb ve wx => ∃ gX AX nX cX BX mX dX, vb = .pointer (some ⟨gX, 0, none⟩) ∧ ve = .int .i64 0 ∧ BoxQ wx gX (qneg X) AX nX cX BX mX dX ∧ CanQ wx AX nX cX BX mX dX X (1 + k * (2 * 4 + 2)) ∧ From W wx)
        case first =>
          refine wp_region_tabL 11 79 9 7 23 [IsV (.slice A n c), IsV (.int .i64 (k : Int)), IsV (.slice A k c), IsV (.slice A2 n2 c2), IsV (.int .i64 (k : Int)), IsV (.slice A2 k c2), IsQE X (1 + k * (2 * 4 + 2)), IsQE (X) (1 + k * (2 * 4 + 2)), IsQ (X) (1 + k * (2 * 4 + 2)), IsV (.int .i64 0), IsBox W.heap.size] (From W) (by kernel_rfl) (by kernel_rfl) (by kernel_rfl) (by decide) (by kernel_rfl) rfl From.lasting (From.drew hF) (fun a9 o9 v9 wx ho hx hv he => ?_) (fun _ _ d9 _ _ h => by cases d9 <;> exact h) ?_
          · obtain rfl := Option.some.inj ho
            have hv' : (IsQE (X) (1 + k * (2 * 4 + 2))) v9 wx := hv
            obtain ⟨A9, n9, c9, B9, m9, d9, rfl, h9⟩ := hv'
            exact ⟨.int .i64 0, Or.inl ⟨rfl, fun w9 => by simp only [execOp, he]; rfl⟩, rfl⟩
          simp only [List.take_succ_cons, List.drop_succ_cons, List.take_zero, List.drop_zero]
          refine Tab.cons IsV.lasting (fun wx hx hd => ?_) (fun v24 => ?_)
          · skip
            clear hd
            intro KK hK
            go_simp
            exact hK.out _ _ rfl (Below.refl _ _)
          simp only [Act.put, List.setIfInBounds_toArray, List.set_cons_zero, List.set_cons_succ]
          refine Tab.cons IsV.lasting (fun wx hx hd => ?_) (fun v25 => ?_)
          · skip
            clear hd
            intro KK hK
            go_simp
            exact hK.out _ _ rfl (Below.refl _ _)
          simp only [Act.put, List.setIfInBounds_toArray, List.set_cons_zero, List.set_cons_succ]
          refine Tab.cons IsV.lasting (fun wx hx hd => ?_) (fun v26 => ?_)
          · skip
            have e24 : v24 = _ := (hd _ (.tail _ (.head _)) (by kernel_rfl) : (IsV (.slice A n c)) v24 wx)
            subst e24
            have e25 : v25 = _ := (hd _ (.head _) (by kernel_rfl) : (IsV (.int .i64 (k : Int))) v25 wx)
            subst e25
            clear hd
            intro KK hK
            go_simp
            exact hK.out _ _ rfl (Below.refl _ _)
          simp only [Act.put, List.setIfInBounds_toArray, List.set_cons_zero, List.set_cons_succ]
          refine Tab.cons IsV.lasting (fun wx hx hd => ?_) (fun v27 => ?_)
          · skip
            clear hd
            intro KK hK
            go_simp
            exact hK.out _ _ rfl (Below.refl _ _)
          simp only [Act.put, List.setIfInBounds_toArray, List.set_cons_zero, List.set_cons_succ]
          refine Tab.cons IsV.lasting (fun wx hx hd => ?_) (fun v28 => ?_)
          · skip
            clear hd
            intro KK hK
            go_simp
            exact hK.out _ _ rfl (Below.refl _ _)
          simp only [Act.put, List.setIfInBounds_toArray, List.set_cons_zero, List.set_cons_succ]
          refine Tab.cons IsV.lasting (fun wx hx hd => ?_) (fun v29 => ?_)
          · skip
            have e27 : v27 = _ := (hd _ (.tail _ (.head _)) (by kernel_rfl) : (IsV (.slice A2 n2 c2)) v27 wx)
            subst e27
            have e28 : v28 = _ := (hd _ (.head _) (by kernel_rfl) : (IsV (.int .i64 (k : Int))) v28 wx)
            subst e28
            clear hd
            intro KK hK
            go_simp
            exact hK.out _ _ rfl (Below.refl _ _)
          simp only [Act.put, List.setIfInBounds_toArray, List.set_cons_zero, List.set_cons_succ]
          refine Tab.cons IsQE.lasting (fun wx hx hd => ?_) (fun v30 => ?_)
          · skip
            have e26 : v26 = _ := (hd _ (.tail _ (.tail _ (.tail _ (.head _)))) (by kernel_rfl) : (IsV (.slice A k c)) v26 wx)
            subst e26
            have e29 : v29 = _ := (hd _ (.head _) (by kernel_rfl) : (IsV (.slice A2 k c2)) v29 wx)
            subst e29
            clear hd
            intro KK hK
            go_simp
            refine (qdot_ok _ k _ ps _ _ qs wx (L1.out.below hx.out) (L2.out.below hx.out) 4 (by omega) ⟨S1.out, S2.out⟩ (by omega) (by have := HB.out; omega)).mono ?_
            rw [HX.out]
            rintro e w' ⟨A', n', c', B', m', d', rfl, hc', hb'⟩
            exact hK.out _ _ ⟨A', n', c', B', m', d', rfl, hc'⟩ hb'
          simp only [Act.put, List.setIfInBounds_toArray, List.set_cons_zero, List.set_cons_succ]
          refine Tab.cons IsQE.lasting (fun wx hx hd => ?_) (fun v23 => ?_)
          · skip
            obtain ⟨A30, n30, c30, B30, m30, d30, rfl, h30⟩ := (hd _ (.head _) (by kernel_rfl) : (IsQE X (1 + k * (2 * 4 + 2))) v30 wx)
            clear hd
            intro KK hK
            go_simp
            exact hK.out _ _ ⟨A30, n30, c30, B30, m30, d30, rfl, h30⟩ (Below.refl _ _)
          simp only [Act.put, List.setIfInBounds_toArray, List.set_cons_zero, List.set_cons_succ]
          refine Tab.cons IsQ.lasting (fun wx hx hd => ?_) (fun v31 => ?_)
          · skip
            obtain ⟨A23, n23, c23, B23, m23, d23, rfl, h23⟩ := (hd _ (.head _) (by kernel_rfl) : (IsQE (X) (1 + k * (2 * 4 + 2))) v23 wx)
            clear hd
            intro KK hK
            go_simp
            exact hK.out _ _ ⟨A23, n23, c23, B23, m23, d23, rfl, h23⟩ (Below.refl _ _)
          simp only [Act.put, List.setIfInBounds_toArray, List.set_cons_zero, List.set_cons_succ]
          refine Tab.cons IsV.lasting (fun wx hx hd => ?_) (fun v32 => ?_)
          · skip
            obtain ⟨A23, n23, c23, B23, m23, d23, rfl, h23⟩ := (hd _ (.tail _ (.head _)) (by kernel_rfl) : (IsQE (X) (1 + k * (2 * 4 + 2))) v23 wx)
            clear hd
            intro KK hK
            go_simp
            exact hK.out _ _ rfl (Below.refl _ _)
          simp only [Act.put, List.setIfInBounds_toArray, List.set_cons_zero, List.set_cons_succ]
          refine Tab.cons IsBox.lasting (fun wx hx hd => ?_) (fun v6 => ?_)
          · skip
            clear hd
            intro KK hK
            go_simp
            exact hK.out _ _ ⟨_, hx.out.size, rfl, BoxQ.new _ _ _ _ _ _ _ _⟩ (below_alloc _ _)
          simp only [Act.put, List.setIfInBounds_toArray, List.set_cons_zero, List.set_cons_succ]
          refine Tab.nil fun wx hx hd => ?_
          obtain ⟨A31, n31, c31, B31, m31, d31, rfl, h31⟩ := (hd _ (.tail _ (.tail _ (.head _))) : (IsQ (X) (1 + k * (2 * 4 + 2))) v31 wx)
          have e32 : v32 = _ := (hd _ (.tail _ (.head _)) : (IsV (.int .i64 0)) v32 wx)
          subst e32
          obtain ⟨g6, j6, rfl, h6⟩ := (hd _ (.head _) : (IsBox W.heap.size) v6 wx)
          clear hd
          have hcN := h6.cells
          have hfN := h6.free
          go_wp2
          go_meet
          case rel => exact ⟨g6, A31, n31, c31, B31, m31, d31, rfl, rfl, h6.store3 _ _ _ _ _ _ _, h31.store3 h6.noNum, Below.up3 j6 hx⟩
        obtain ⟨gX, AX, nX, cX, BX, mX, dX, rfl, rfl, qX, canX, hFX⟩ := hcut
        have BX' := hide qX
        replace L1 := hide (L1.out.below hFX.out)
        replace L2 := hide (L2.out.below hFX.out)
        replace hB := below_step hFX.out hB
        clear hF hFX qX
        go_wp2_with fail
        obtain ⟨W, hW⟩ : ∃ W : World, W = wc := ⟨_, rfl⟩
        subst hW
        replace hF := From.refl W
        go_cut [8, 9] from 34 to 42 (fun vb ve wx => ∃ gY AY nY cY BY mY dY, vb = .pointer (some ⟨gY, 0, none⟩) ∧ ve = .int .i64 0 ∧ BoxQ wx gY (qneg Y) AY nY cY BY mY dY ∧ CanQ wx AY nY cY BY mY dY Y (1 + k * (2 * 4 + 2)) ∧ From W wx)
        case first =>
          refine wp_region_tabL 11 79 9 7 33 [IsV (.slice A n c), IsV (.int .i64 (k : Int)), IsV (.slice A k c), IsV (.slice A n c), IsV (.int .i64 (k : Int)), IsV (.slice A k c), IsQE Y (1 + k * (2 * 4 + 2)), IsQE (Y) (1 + k * (2 * 4 + 2)), IsQ (Y) (1 + k * (2 * 4 + 2)), IsV (.int .i64 0), IsBox W.heap.size] (From W) (by kernel_rfl) (by kernel_rfl) (by kernel_rfl) (by decide) (by kernel_rfl) rfl From.lasting (From.drew hF) (fun a9 o9 v9 wx ho hx hv he => ?_) (fun _ _ d9 _ _ h => by cases d9 <;> exact h) ?_
          · obtain rfl := Option.some.inj ho
            have hv' : (IsQE (Y) (1 + k * (2 * 4 + 2))) v9 wx := hv
            obtain ⟨A9, n9, c9, B9, m9, d9, rfl, h9⟩ := hv'
            exact ⟨.int .i64 0, Or.inl ⟨rfl, fun w9 => by simp only [execOp, he]; rfl⟩, rfl⟩
          simp only [List.take_succ_cons, List.drop_succ_cons, List.take_zero, List.drop_zero]
          refine Tab.cons IsV.lasting (fun wx hx hd => ?_) (fun v34 => ?_)
          · skip
            clear hd
            intro KK hK
            go_simp
            exact hK.out _ _ rfl (Below.refl _ _)
          simp only [Act.put, List.setIfInBounds_toArray, List.set_cons_zero, List.set_cons_succ]
          refine Tab.cons IsV.lasting (fun wx hx hd => ?_) (fun v35 => ?_)
          · skip
            clear hd
            intro KK hK
            go_simp
            exact hK.out _ _ rfl (Below.refl _ _)
          simp only [Act.put, List.setIfInBounds_toArray, List.set_cons_zero, List.set_cons_succ]
          refine Tab.cons IsV.lasting (fun wx hx hd => ?_) (fun v36 => ?_)
          · skip
            have e34 : v34 = _ := (hd _ (.tail _ (.head _)) (by kernel_rfl) : (IsV (.slice A n c)) v34 wx)
            subst e34
            have e35 : v35 = _ := (hd _ (.head _) (by kernel_rfl) : (IsV (.int .i64 (k : Int))) v35 wx)
            subst e35
            clear hd
            intro KK hK
            go_simp
            exact hK.out _ _ rfl (Below.refl _ _)
          simp only [Act.put, List.setIfInBounds_toArray, List.set_cons_zero, List.set_cons_succ]
          refine Tab.cons IsV.lasting (fun wx hx hd => ?_) (fun v37 => ?_)
          · skip
            clear hd
            intro KK hK
            go_simp
            exact hK.out _ _ rfl (Below.refl _ _)
          simp only [Act.put, List.setIfInBounds_toArray, List.set_cons_zero, List.set_cons_succ]
          refine Tab.cons IsV.lasting (fun wx hx hd => ?_) (fun v38 => ?_)
          · skip
            clear hd
            intro KK hK
            go_simp
            exact hK.out _ _ rfl (Below.refl _ _)
          simp only [Act.put, List.setIfInBounds_toArray, List.set_cons_zero, List.set_cons_succ]
          refine Tab.cons IsV.lasting (fun wx hx hd => ?_) (fun v39 => ?_)
          · skip
            have e37 : v37 = _ := (hd _ (.tail _ (.head _)) (by kernel_rfl) : (IsV (.slice A n c)) v37 wx)
            subst e37
            have e38 : v38 = _ := (hd _ (.head _) (by kernel_rfl) : (IsV (.int .i64 (k : Int))) v38 wx)
            subst e38
            clear hd
            intro KK hK
            go_simp
            exact hK.out _ _ rfl (Below.refl _ _)
          simp only [Act.put, List.setIfInBounds_toArray, List.set_cons_zero, List.set_cons_succ]
          refine Tab.cons IsQE.lasting (fun wx hx hd => ?_) (fun v40 => ?_)
          · skip
            have e36 : v36 = _ := (hd _ (.tail _ (.tail _ (.tail _ (.head _)))) (by kernel_rfl) : (IsV (.slice A k c)) v36 wx)
            subst e36
            have e39 : v39 = _ := (hd _ (.head _) (by kernel_rfl) : (IsV (.slice A k c)) v39 wx)
            subst e39
            clear hd
            intro KK hK
            go_simp
            refine (qdot_ok _ k _ ps _ _ ps wx (L1.out.below hx.out) (L1.out.below hx.out) 4 (by omega) ⟨S1.out, S1.out⟩ (by omega) (by have := HB.out; omega)).mono ?_
            rw [HY.out]
            rintro e w' ⟨A', n', c', B', m', d', rfl, hc', hb'⟩
            exact hK.out _ _ ⟨A', n', c', B', m', d', rfl, hc'⟩ hb'
          simp only [Act.put, List.setIfInBounds_toArray, List.set_cons_zero, List.set_cons_succ]
          refine Tab.cons IsQE.lasting (fun wx hx hd => ?_) (fun v33 => ?_)
          · skip
            obtain ⟨A40, n40, c40, B40, m40, d40, rfl, h40⟩ := (hd _ (.head _) (by kernel_rfl) : (IsQE Y (1 + k * (2 * 4 + 2))) v40 wx)
            clear hd
            intro KK hK
            go_simp
            exact hK.out _ _ ⟨A40, n40, c40, B40, m40, d40, rfl, h40⟩ (Below.refl _ _)
          simp only [Act.put, List.setIfInBounds_toArray, List.set_cons_zero, List.set_cons_succ]
          refine Tab.cons IsQ.lasting (fun wx hx hd => ?_) (fun v41 => ?_)
          · skip
            obtain ⟨A33, n33, c33, B33, m33, d33, rfl, h33⟩ := (hd _ (.head _) (by kernel_rfl) : (IsQE (Y) (1 + k * (2 * 4 + 2))) v33 wx)
            clear hd
            intro KK hK
            go_simp
            exact hK.out _ _ ⟨A33, n33, c33, B33, m33, d33, rfl, h33⟩ (Below.refl _ _)
          simp only [Act.put, List.setIfInBounds_toArray, List.set_cons_zero, List.set_cons_succ]
          refine Tab.cons IsV.lasting (fun wx hx hd => ?_) (fun v42 => ?_)
          · skip
            obtain ⟨A33, n33, c33, B33, m33, d33, rfl, h33⟩ := (hd _ (.tail _ (.head _)) (by kernel_rfl) : (IsQE (Y) (1 + k * (2 * 4 + 2))) v33 wx)
            clear hd
            intro KK hK
            go_simp
            exact hK.out _ _ rfl (Below.refl _ _)
          simp only [Act.put, List.setIfInBounds_toArray, List.set_cons_zero, List.set_cons_succ]
          refine Tab.cons IsBox.lasting (fun wx hx hd => ?_) (fun v8 => ?_)
          · skip
            clear hd
            intro KK hK
            go_simp
            exact hK.out _ _ ⟨_, hx.out.size, rfl, BoxQ.new _ _ _ _ _ _ _ _⟩ (below_alloc _ _)
          simp only [Act.put, List.setIfInBounds_toArray, List.set_cons_zero, List.set_cons_succ]
          refine Tab.nil fun wx hx hd => ?_
          obtain ⟨A41, n41, c41, B41, m41, d41, rfl, h41⟩ := (hd _ (.tail _ (.tail _ (.head _))) : (IsQ (Y) (1 + k * (2 * 4 + 2))) v41 wx)
          have e42 : v42 = _ := (hd _ (.tail _ (.head _)) : (IsV (.int .i64 0)) v42 wx)
          subst e42
          obtain ⟨g8, j8, rfl, h8⟩ := (hd _ (.head _) : (IsBox W.heap.size) v8 wx)
          clear hd
          have hcN := h8.cells
          have hfN := h8.free
          go_wp2
          go_meet
          case rel => exact ⟨g8, A41, n41, c41, B41, m41, d41, rfl, rfl, h8.store3 _ _ _ _ _ _ _, h41.store3 h8.noNum, Below.up3 j8 hx⟩
        obtain ⟨gY, AY, nY, cY, BY, mY, dY, rfl, rfl, qY, canY, hFY⟩ := hcut
        have BY' := hide qY
        replace L1 := hide (L1.out.below hFY.out)
        replace L2 := hide (L2.out.below hFY.out)
        replace hB := below_step hFY.out hB
        replace BX' := hide (BX'.out.later hFY)
        replace canX := canX.below hFY.out
        clear hF hFY qY
        go_wp2_with fail
        obtain ⟨W, hW⟩ : ∃ W : World, W = wc := ⟨_, rfl⟩
        subst hW
        replace hF := From.refl W
        go_cut [10, 11] from 44 to 52 (fun vb ve wx => ∃ gZ AZ nZ cZ BZ mZ dZ, vb = .pointer (some ⟨gZ, 0, none⟩) ∧ ve = .int .i64 0 ∧ BoxQ wx gZ (qneg Z) AZ nZ cZ BZ mZ dZ ∧ CanQ wx AZ nZ cZ BZ mZ dZ Z (1 + k * (2 * 4 + 2)) ∧ From W wx)
        case first =>
          refine wp_region_tabL 11 79 9 7 43 [IsV (.slice A2 n2 c2), IsV (.int .i64 (k : Int)), IsV (.slice A2 k c2), IsV (.slice A2 n2 c2), IsV (.int .i64 (k : Int)), IsV (.slice A2 k c2), IsQE Z (1 + k * (2 * 4 + 2)), IsQE (Z) (1 + k * (2 * 4 + 2)), IsQ (Z) (1 + k * (2 * 4 + 2)), IsV (.int .i64 0), IsBox W.heap.size] (From W) (by kernel_rfl) (by kernel_rfl) (by kernel_rfl) (by decide) (by kernel_rfl) rfl From.lasting (From.drew hF) (fun a9 o9 v9 wx ho hx hv he => ?_) (fun _ _ d9 _ _ h => by cases d9 <;> exact h) ?_
          · obtain rfl := Option.some.inj ho
            have hv' : (IsQE (Z) (1 + k * (2 * 4 + 2))) v9 wx := hv
            obtain ⟨A9, n9, c9, B9, m9, d9, rfl, h9⟩ := hv'
            exact ⟨.int .i64 0, Or.inl ⟨rfl, fun w9 => by simp only [execOp, he]; rfl⟩, rfl⟩
          simp only [List.take_succ_cons, List.drop_succ_cons, List.take_zero, List.drop_zero]
          refine Tab.cons IsV.lasting (fun wx hx hd => ?_) (fun v44 => ?_)
          · skip
            clear hd
            intro KK hK
            go_simp
            exact hK.out _ _ rfl (Below.refl _ _)
          simp only [Act.put, List.setIfInBounds_toArray, List.set_cons_zero, List.set_cons_succ]
          refine Tab.cons IsV.lasting (fun wx hx hd => ?_) (fun v45 => ?_)
          · skip
            clear hd
            intro KK hK
            go_simp
            exact hK.out _ _ rfl (Below.refl _ _)
          simp only [Act.put, List.setIfInBounds_toArray, List.set_cons_zero, List.set_cons_succ]
          refine Tab.cons IsV.lasting (fun wx hx hd => ?_) (fun v46 => ?_)
          · skip
            have e44 : v44 = _ := (hd _ (.tail _ (.head _)) (by kernel_rfl) : (IsV (.slice A2 n2 c2)) v44 wx)
            subst e44
            have e45 : v45 = _ := (hd _ (.head _) (by kernel_rfl) : (IsV (.int .i64 (k : Int))) v45 wx)
            subst e45
            clear hd
            intro KK hK
            go_simp
            exact hK.out _ _ rfl (Below.refl _ _)
          simp only [Act.put, List.setIfInBounds_toArray, List.set_cons_zero, List.set_cons_succ]
          refine Tab.cons IsV.lasting (fun wx hx hd => ?_) (fun v47 => ?_)
          · skip
            clear hd
            intro KK hK
            go_simp
            exact hK.out _ _ rfl (Below.refl _ _)
          simp only [Act.put, List.setIfInBounds_toArray, List.set_cons_zero, List.set_cons_succ]
          refine Tab.cons IsV.lasting (fun wx hx hd => ?_) (fun v48 => ?_)
          · skip
            clear hd
            intro KK hK
            go_simp
            exact hK.out _ _ rfl (Below.refl _ _)
          simp only [Act.put, List.setIfInBounds_toArray, List.set_cons_zero, List.set_cons_succ]
          refine Tab.cons IsV.lasting (fun wx hx hd => ?_) (fun v49 => ?_)
          · skip
            have e47 : v47 = _ := (hd _ (.tail _ (.head _)) (by kernel_rfl) : (IsV (.slice A2 n2 c2)) v47 wx)
            subst e47
            have e48 : v48 = _ := (hd _ (.head _) (by kernel_rfl) : (IsV (.int .i64 (k : Int))) v48 wx)
            subst e48
            clear hd
            intro KK hK
            go_simp
            exact hK.out _ _ rfl (Below.refl _ _)
          simp only [Act.put, List.setIfInBounds_toArray, List.set_cons_zero, List.set_cons_succ]
          refine Tab.cons IsQE.lasting (fun wx hx hd => ?_) (fun v50 => ?_)
          · skip
            have e46 : v46 = _ := (hd _ (.tail _ (.tail _ (.tail _ (.head _)))) (by kernel_rfl) : (IsV (.slice A2 k c2)) v46 wx)
            subst e46
            have e49 : v49 = _ := (hd _ (.head _) (by kernel_rfl) : (IsV (.slice A2 k c2)) v49 wx)
            subst e49
            clear hd
            intro KK hK
            go_simp
            refine (qdot_ok _ k _ qs _ _ qs wx (L2.out.below hx.out) (L2.out.below hx.out) 4 (by omega) ⟨S2.out, S2.out⟩ (by omega) (by have := HB.out; omega)).mono ?_
            rw [HZ.out]
            rintro e w' ⟨A', n', c', B', m', d', rfl, hc', hb'⟩
            exact hK.out _ _ ⟨A', n', c', B', m', d', rfl, hc'⟩ hb'
          simp only [Act.put, List.setIfInBounds_toArray, List.set_cons_zero, List.set_cons_succ]
          refine Tab.cons IsQE.lasting (fun wx hx hd => ?_) (fun v43 => ?_)
          · skip
            obtain ⟨A50, n50, c50, B50, m50, d50, rfl, h50⟩ := (hd _ (.head _) (by kernel_rfl) : (IsQE Z (1 + k * (2 * 4 + 2))) v50 wx)
            clear hd
            intro KK hK
            go_simp
            exact hK.out _ _ ⟨A50, n50, c50, B50, m50, d50, rfl, h50⟩ (Below.refl _ _)
          simp only [Act.put, List.setIfInBounds_toArray, List.set_cons_zero, List.set_cons_succ]
          refine Tab.cons IsQ.lasting (fun wx hx hd => ?_) (fun v51 => ?_)
          · skip
            obtain ⟨A43, n43, c43, B43, m43, d43, rfl, h43⟩ := (hd _ (.head _) (by kernel_rfl) : (IsQE (Z) (1 + k * (2 * 4 + 2))) v43 wx)
            clear hd
            intro KK hK
            go_simp
            exact hK.out _ _ ⟨A43, n43, c43, B43, m43, d43, rfl, h43⟩ (Below.refl _ _)
          simp only [Act.put, List.setIfInBounds_toArray, List.set_cons_zero, List.set_cons_succ]
          refine Tab.cons IsV.lasting (fun wx hx hd => ?_) (fun v52 => ?_)
          · skip
            obtain ⟨A43, n43, c43, B43, m43, d43, rfl, h43⟩ := (hd _ (.tail _ (.head _)) (by kernel_rfl) : (IsQE (Z) (1 + k * (2 * 4 + 2))) v43 wx)
            clear hd
            intro KK hK
            go_simp
            exact hK.out _ _ rfl (Below.refl _ _)
          simp only [Act.put, List.setIfInBounds_toArray, List.set_cons_zero, List.set_cons_succ]
          refine Tab.cons IsBox.lasting (fun wx hx hd => ?_) (fun v10 => ?_)
          · skip
            clear hd
            intro KK hK
            go_simp
            exact hK.out _ _ ⟨_, hx.out.size, rfl, BoxQ.new _ _ _ _ _ _ _ _⟩ (below_alloc _ _)
          simp only [Act.put, List.setIfInBounds_toArray, List.set_cons_zero, List.set_cons_succ]
          refine Tab.nil fun wx hx hd => ?_
          obtain ⟨A51, n51, c51, B51, m51, d51, rfl, h51⟩ := (hd _ (.tail _ (.tail _ (.head _))) : (IsQ (Z) (1 + k * (2 * 4 + 2))) v51 wx)
          have e52 : v52 = _ := (hd _ (.tail _ (.head _)) : (IsV (.int .i64 0)) v52 wx)
          subst e52
          obtain ⟨g10, j10, rfl, h10⟩ := (hd _ (.head _) : (IsBox W.heap.size) v10 wx)
          clear hd
          have hcN := h10.cells
          have hfN := h10.free
          go_wp2
          go_meet
          case rel => exact ⟨g10, A51, n51, c51, B51, m51, d51, rfl, rfl, h10.store3 _ _ _ _ _ _ _, h51.store3 h10.noNum, Below.up3 j10 hx⟩
        obtain ⟨gZ, AZ, nZ, cZ, BZ, mZ, dZ, rfl, rfl, qZ, canZ, hFZ⟩ := hcut
        have BZ' := hide qZ
        replace L1 := hide (L1.out.below hFZ.out)
        replace L2 := hide (L2.out.below hFZ.out)
        replace hB := below_step hFZ.out hB
        replace BX' := hide (BX'.out.later hFZ)
        replace canX := canX.below hFZ.out
        replace BY' := hide (BY'.out.later hFZ)
        replace canY := canY.below hFZ.out
        clear hF hFZ qZ
        go_wp2_with fail
        obtain ⟨W, hW⟩ : ∃ W : World, W = wc := ⟨_, rfl⟩
        subst hW
        replace canX := canX.wide (show 1 + k * (2 * 4 + 2) ≤ 81 by have := HB.out; omega)
        replace canY := canY.wide (show 1 + k * (2 * 4 + 2) ≤ 81 by have := HB.out; omega)
        replace canZ := canZ.wide (show 1 + k * (2 * 4 + 2) ≤ 81 by have := HB.out; omega)
        have hF := From.refl W
        obtain ⟨z9, hz9⟩ : ∃ z, z = cmpQ (X * X) (Y * Z) := ⟨_, rfl⟩
        rw [← hz9] at HC
        have HC9 := hide hz9.symm
        clear hz9
        refine wp_region_tab 27 79 [IsV (.int .i64 0), IsV (.bool true), IsV (.bool true), IsV (.int .i64 0), IsV (.bool true), IsV (.bool true), IsV (.bool true), IsV (.int .i64 0), IsV (.bool true), IsV (.bool true), IsV (.bool true), IsV (.agg #[.bool (qneg X), .slice AX nX cX, .slice BX mX dX]), IsV (.bool true), IsV (.bool true), IsV (.bool true), IsV (.agg #[.bool (qneg X), .slice AX nX cX, .slice BX mX dX]), IsV (.agg #[.bool (qneg X), .slice AX nX cX, .slice BX mX dX]), IsQL [X, X] 81, IsQ (X * X) 163, IsV (.agg #[.bool (qneg Y), .slice AY nY cY, .slice BY mY dY]), IsV (.agg #[.bool (qneg Z), .slice AZ nZ cZ, .slice BZ mZ dZ]), IsQL [Y, Z] 81, IsQ (Y * Z) 163, IsV (.int .i64 z9), IsV (.bool true), IsV (.bool true), IsV (.bool true)] (From W) (by kernel_rfl) (by kernel_rfl) (by kernel_rfl) rfl From.lasting (From.drew hF) ?_
        simp only [List.take_succ_cons, List.drop_succ_cons, List.take_nil, List.drop_nil]
        refine Tab.cons IsV.lasting (fun wx hx hd => ?_) (fun v53 => ?_)
        · skip
          clear hd
          intro KK hK
          go_simp
          exact hK.out _ _ rfl (Below.refl _ _)
        simp only [Act.put, List.setIfInBounds_toArray, List.set_cons_zero, List.set_cons_succ]
        refine Tab.cons IsV.lasting (fun wx hx hd => ?_) (fun v54 => ?_)
        · skip
          have e53 : v53 = _ := (hd _ (.head _) (by kernel_rfl) : (IsV (.int .i64 0)) v53 wx)
          subst e53
          clear hd
          intro KK hK
          go_simp
          exact hK.out _ _ rfl (Below.refl _ _)
        simp only [Act.put, List.setIfInBounds_toArray, List.set_cons_zero, List.set_cons_succ]
        refine Tab.cons IsV.lasting (fun wx hx hd => ?_) (fun v55 => ?_)
        · skip
          have e54 : v54 = _ := (hd _ (.head _) (by kernel_rfl) : (IsV (.bool true)) v54 wx)
          subst e54
          clear hd
          intro KK hK
          go_simp
          exact hK.out _ _ rfl (Below.refl _ _)
        simp only [Act.put, List.setIfInBounds_toArray, List.set_cons_zero, List.set_cons_succ]
        refine Tab.cons IsV.lasting (fun wx hx hd => ?_) (fun v56 => ?_)
        · skip
          have e55 : v55 = _ := (hd _ (.head _) (by kernel_rfl) : (IsV (.bool true)) v55 wx)
          subst e55
          clear hd
          intro KK hK
          go_simp
          exact hK.out _ _ rfl (Below.refl _ _)
        simp only [Act.put, List.setIfInBounds_toArray, List.set_cons_zero, List.set_cons_succ]
        refine Tab.cons IsV.lasting (fun wx hx hd => ?_) (fun v57 => ?_)
        · skip
          have e56 : v56 = _ := (hd _ (.head _) (by kernel_rfl) : (IsV (.int .i64 0)) v56 wx)
          subst e56
          have e55 : v55 = _ := (hd _ (.tail _ (.head _)) (by kernel_rfl) : (IsV (.bool true)) v55 wx)
          subst e55
          clear hd
          intro KK hK
          go_simp
          exact hK.out _ _ rfl (Below.refl _ _)
        simp only [Act.put, List.setIfInBounds_toArray, List.set_cons_zero, List.set_cons_succ]
        refine Tab.cons IsV.lasting (fun wx hx hd => ?_) (fun v58 => ?_)
        · skip
          have e55 : v55 = _ := (hd _ (.tail _ (.tail _ (.head _))) (by kernel_rfl) : (IsV (.bool true)) v55 wx)
          subst e55
          have e57 : v57 = _ := (hd _ (.head _) (by kernel_rfl) : (IsV (.bool true)) v57 wx)
          subst e57
          clear hd
          intro KK hK
          go_simp
          exact hK.out _ _ rfl (Below.refl _ _)
        simp only [Act.put, List.setIfInBounds_toArray, List.set_cons_zero, List.set_cons_succ]
        refine Tab.cons IsV.lasting (fun wx hx hd => ?_) (fun v59 => ?_)
        · skip
          have e58 : v58 = _ := (hd _ (.head _) (by kernel_rfl) : (IsV (.bool true)) v58 wx)
          subst e58
          clear hd
          intro KK hK
          go_simp
          exact hK.out _ _ rfl (Below.refl _ _)
        simp only [Act.put, List.setIfInBounds_toArray, List.set_cons_zero, List.set_cons_succ]
        refine Tab.cons IsV.lasting (fun wx hx hd => ?_) (fun v60 => ?_)
        · skip
          have e59 : v59 = _ := (hd _ (.head _) (by kernel_rfl) : (IsV (.bool true)) v59 wx)
          subst e59
          clear hd
          intro KK hK
          go_simp
          exact hK.out _ _ rfl (Below.refl _ _)
        simp only [Act.put, List.setIfInBounds_toArray, List.set_cons_zero, List.set_cons_succ]
        refine Tab.cons IsV.lasting (fun wx hx hd => ?_) (fun v61 => ?_)
        · skip
          have e60 : v60 = _ := (hd _ (.head _) (by kernel_rfl) : (IsV (.int .i64 0)) v60 wx)
          subst e60
          have e59 : v59 = _ := (hd _ (.tail _ (.head _)) (by kernel_rfl) : (IsV (.bool true)) v59 wx)
          subst e59
          clear hd
          intro KK hK
          go_simp
          exact hK.out _ _ rfl (Below.refl _ _)
        simp only [Act.put, List.setIfInBounds_toArray, List.set_cons_zero, List.set_cons_succ]
        refine Tab.cons IsV.lasting (fun wx hx hd => ?_) (fun v62 => ?_)
        · skip
          have e59 : v59 = _ := (hd _ (.tail _ (.tail _ (.head _))) (by kernel_rfl) : (IsV (.bool true)) v59 wx)
          subst e59
          have e61 : v61 = _ := (hd _ (.head _) (by kernel_rfl) : (IsV (.bool true)) v61 wx)
          subst e61
          clear hd
          intro KK hK
          go_simp
          exact hK.out _ _ rfl (Below.refl _ _)
        simp only [Act.put, List.setIfInBounds_toArray, List.set_cons_zero, List.set_cons_succ]
        refine Tab.cons IsV.lasting (fun wx hx hd => ?_) (fun v63 => ?_)
        · skip
          have e62 : v62 = _ := (hd _ (.head _) (by kernel_rfl) : (IsV (.bool true)) v62 wx)
          subst e62
          clear hd
          intro KK hK
          go_simp
          exact hK.out _ _ rfl (Below.refl _ _)
        simp only [Act.put, List.setIfInBounds_toArray, List.set_cons_zero, List.set_cons_succ]
        refine Tab.cons IsV.lasting (fun wx hx hd => ?_) (fun v64 => ?_)
        · skip
          have e63 : v63 = _ := (hd _ (.head _) (by kernel_rfl) : (IsV (.bool true)) v63 wx)
          subst e63
          clear hd
          intro KK hK
          have hcell := (BX'.out.later hx).cells
          go_simp
          exact hK.out _ _ rfl (Below.refl _ _)
        simp only [Act.put, List.setIfInBounds_toArray, List.set_cons_zero, List.set_cons_succ]
        refine Tab.cons IsV.lasting (fun wx hx hd => ?_) (fun v65 => ?_)
        · skip
          have e64 : v64 = _ := (hd _ (.head _) (by kernel_rfl) : (IsV (.agg #[.bool (qneg X), .slice AX nX cX, .slice BX mX dX])) v64 wx)
          subst e64
          have e63 : v63 = _ := (hd _ (.tail _ (.head _)) (by kernel_rfl) : (IsV (.bool true)) v63 wx)
          subst e63
          clear hd
          intro KK hK
          go_simp
          refine (is_can (canX.below hx.out) (by omega) (by omega)).mono ?_
          rintro e w' ⟨rfl, hb'⟩
          exact hK.out _ _ rfl hb'
        simp only [Act.put, List.setIfInBounds_toArray, List.set_cons_zero, List.set_cons_succ]
        refine Tab.cons IsV.lasting (fun wx hx hd => ?_) (fun v66 => ?_)
        · skip
          have e63 : v63 = _ := (hd _ (.tail _ (.tail _ (.head _))) (by kernel_rfl) : (IsV (.bool true)) v63 wx)
          subst e63
          have e65 : v65 = _ := (hd _ (.head _) (by kernel_rfl) : (IsV (.bool true)) v65 wx)
          subst e65
          clear hd
          intro KK hK
          go_simp
          exact hK.out _ _ rfl (Below.refl _ _)
        simp only [Act.put, List.setIfInBounds_toArray, List.set_cons_zero, List.set_cons_succ]
        refine Tab.cons IsV.lasting (fun wx hx hd => ?_) (fun v67 => ?_)
        · skip
          have e66 : v66 = _ := (hd _ (.head _) (by kernel_rfl) : (IsV (.bool true)) v66 wx)
          subst e66
          clear hd
          intro KK hK
          go_simp
          exact hK.out _ _ rfl (Below.refl _ _)
        simp only [Act.put, List.setIfInBounds_toArray, List.set_cons_zero, List.set_cons_succ]
        refine Tab.cons IsV.lasting (fun wx hx hd => ?_) (fun v68 => ?_)
        · skip
          have e67 : v67 = _ := (hd _ (.head _) (by kernel_rfl) : (IsV (.bool true)) v67 wx)
          subst e67
          clear hd
          intro KK hK
          have hcell := (BX'.out.later hx).cells
          go_simp
          exact hK.out _ _ rfl (Below.refl _ _)
        simp only [Act.put, List.setIfInBounds_toArray, List.set_cons_zero, List.set_cons_succ]
        refine Tab.cons IsV.lasting (fun wx hx hd => ?_) (fun v69 => ?_)
        · skip
          have e67 : v67 = _ := (hd _ (.tail _ (.head _)) (by kernel_rfl) : (IsV (.bool true)) v67 wx)
          subst e67
          clear hd
          intro KK hK
          have hcell := (BX'.out.later hx).cells
          go_simp
          exact hK.out _ _ rfl (Below.refl _ _)
        simp only [Act.put, List.setIfInBounds_toArray, List.set_cons_zero, List.set_cons_succ]
        refine Tab.cons IsQL.lasting (fun wx hx hd => ?_) (fun v70 => ?_)
        · skip
          have e68 : v68 = _ := (hd _ (.tail _ (.head _)) (by kernel_rfl) : (IsV (.agg #[.bool (qneg X), .slice AX nX cX, .slice BX mX dX])) v68 wx)
          subst e68
          have e69 : v69 = _ := (hd _ (.head _) (by kernel_rfl) : (IsV (.agg #[.bool (qneg X), .slice AX nX cX, .slice BX mX dX])) v69 wx)
          subst e69
          have e67 : v67 = _ := (hd _ (.tail _ (.tail _ (.head _))) (by kernel_rfl) : (IsV (.bool true)) v67 wx)
          subst e67
          clear hd
          intro KK hK
          go_simp
          exact hK.out _ _ ⟨_, rfl, ql_two rfl (canX.below hx.out).raw (canX.below hx.out).raw (by omega) (by omega)⟩ (below_alloc _ _)
        simp only [Act.put, List.setIfInBounds_toArray, List.set_cons_zero, List.set_cons_succ]
        refine Tab.cons IsQ.lasting (fun wx hx hd => ?_) (fun v71 => ?_)
        · skip
          obtain ⟨g70, rfl, h70⟩ := (hd _ (.head _) (by kernel_rfl) : (IsQL [X, X] 81) v70 wx)
          have e67 : v67 = _ := (hd _ (.tail _ (.tail _ (.tail _ (.head _)))) (by kernel_rfl) : (IsV (.bool true)) v67 wx)
          subst e67
          clear hd
          intro KK hK
          go_simp
          refine (qmul_pair h70 (by omega) (by omega)).mono ?_
          rintro e w' ⟨A', n', c', B', m', d', rfl, hc', hb'⟩
          exact hK.out _ _ ⟨A', n', c', B', m', d', rfl, hc'⟩ hb'
        simp only [Act.put, List.setIfInBounds_toArray, List.set_cons_zero, List.set_cons_succ]
        refine Tab.cons IsV.lasting (fun wx hx hd => ?_) (fun v72 => ?_)
        · skip
          have e67 : v67 = _ := (hd _ (.tail _ (.tail _ (.tail _ (.tail _ (.head _))))) (by kernel_rfl) : (IsV (.bool true)) v67 wx)
          subst e67
          clear hd
          intro KK hK
          have hcell := (BY'.out.later hx).cells
          go_simp
          exact hK.out _ _ rfl (Below.refl _ _)
        simp only [Act.put, List.setIfInBounds_toArray, List.set_cons_zero, List.set_cons_succ]
        refine Tab.cons IsV.lasting (fun wx hx hd => ?_) (fun v73 => ?_)
        · skip
          have e67 : v67 = _ := (hd _ (.tail _ (.tail _ (.tail _ (.tail _ (.tail _ (.head _)))))) (by kernel_rfl) : (IsV (.bool true)) v67 wx)
          subst e67
          clear hd
          intro KK hK
          have hcell := (BZ'.out.later hx).cells
          go_simp
          exact hK.out _ _ rfl (Below.refl _ _)
        simp only [Act.put, List.setIfInBounds_toArray, List.set_cons_zero, List.set_cons_succ]
        refine Tab.cons IsQL.lasting (fun wx hx hd => ?_) (fun v74 => ?_)
        · skip
          have e72 : v72 = _ := (hd _ (.tail _ (.head _)) (by kernel_rfl) : (IsV (.agg #[.bool (qneg Y), .slice AY nY cY, .slice BY mY dY])) v72 wx)
          subst e72
          have e73 : v73 = _ := (hd _ (.head _) (by kernel_rfl) : (IsV (.agg #[.bool (qneg Z), .slice AZ nZ cZ, .slice BZ mZ dZ])) v73 wx)
          subst e73
          have e67 : v67 = _ := (hd _ (.tail _ (.tail _ (.tail _ (.tail _ (.tail _ (.tail _ (.head _))))))) (by kernel_rfl) : (IsV (.bool true)) v67 wx)
          subst e67
          clear hd
          intro KK hK
          go_simp
          exact hK.out _ _ ⟨_, rfl, ql_two rfl (canY.below hx.out).raw (canZ.below hx.out).raw (by omega) (by omega)⟩ (below_alloc _ _)
        simp only [Act.put, List.setIfInBounds_toArray, List.set_cons_zero, List.set_cons_succ]
        refine Tab.cons IsQ.lasting (fun wx hx hd => ?_) (fun v75 => ?_)
        · skip
          obtain ⟨g74, rfl, h74⟩ := (hd _ (.head _) (by kernel_rfl) : (IsQL [Y, Z] 81) v74 wx)
          have e67 : v67 = _ := (hd _ (.tail _ (.tail _ (.tail _ (.tail _ (.tail _ (.tail _ (.tail _ (.head _)))))))) (by kernel_rfl) : (IsV (.bool true)) v67 wx)
          subst e67
          clear hd
          intro KK hK
          go_simp
          refine (qmul_pair h74 (by omega) (by omega)).mono ?_
          rintro e w' ⟨A', n', c', B', m', d', rfl, hc', hb'⟩
          exact hK.out _ _ ⟨A', n', c', B', m', d', rfl, hc'⟩ hb'
        simp only [Act.put, List.setIfInBounds_toArray, List.set_cons_zero, List.set_cons_succ]
        refine Tab.cons IsV.lasting (fun wx hx hd => ?_) (fun v76 => ?_)
        · skip
          obtain ⟨A71, n71, c71, B71, m71, d71, rfl, h71⟩ := (hd _ (.tail _ (.tail _ (.tail _ (.tail _ (.head _))))) (by kernel_rfl) : (IsQ (X * X) 163) v71 wx)
          obtain ⟨A75, n75, c75, B75, m75, d75, rfl, h75⟩ := (hd _ (.head _) (by kernel_rfl) : (IsQ (Y * Z) 163) v75 wx)
          have e67 : v67 = _ := (hd _ (.tail _ (.tail _ (.tail _ (.tail _ (.tail _ (.tail _ (.tail _ (.tail _ (.head _))))))))) (by kernel_rfl) : (IsV (.bool true)) v67 wx)
          subst e67
          clear hd
          intro KK hK
          go_simp
          refine (qcmp_any _ _ _ _ _ _ _ _ 163 _ _ _ _ _ _ _ _ 163 _ h71.raw h75.raw (by omega) (by omega) (by omega) (by omega)).mono ?_
          rintro e w' ⟨rfl, hb'⟩
          exact hK.out _ _ (int_val (HC9.out)) hb'
        simp only [Act.put, List.setIfInBounds_toArray, List.set_cons_zero, List.set_cons_succ]
        refine Tab.cons IsV.lasting (fun wx hx hd => ?_) (fun v77 => ?_)
        · skip
          have e76 : v76 = _ := (hd _ (.head _) (by kernel_rfl) : (IsV (.int .i64 z9)) v76 wx)
          subst e76
          have e67 : v67 = _ := (hd _ (.tail _ (.tail _ (.tail _ (.tail _ (.tail _ (.tail _ (.tail _ (.tail _ (.tail _ (.head _)))))))))) (by kernel_rfl) : (IsV (.bool true)) v67 wx)
          subst e67
          clear hd
          intro KK hK
          have hh := HC.out
          go_simp
          first | exact hK.out _ _ rfl (Below.refl _ _) | exact hK.out _ _ (bool_val (decide_eq_true hh)) (Below.refl _ _)
        simp only [Act.put, List.setIfInBounds_toArray, List.set_cons_zero, List.set_cons_succ]
        refine Tab.cons IsV.lasting (fun wx hx hd => ?_) (fun v78 => ?_)
        · skip
          have e67 : v67 = _ := (hd _ (.tail _ (.tail _ (.tail _ (.tail _ (.tail _ (.tail _ (.tail _ (.tail _ (.tail _ (.tail _ (.head _))))))))))) (by kernel_rfl) : (IsV (.bool true)) v67 wx)
          subst e67
          have e77 : v77 = _ := (hd _ (.head _) (by kernel_rfl) : (IsV (.bool true)) v77 wx)
          subst e77
          clear hd
          intro KK hK
          go_simp
          exact hK.out _ _ rfl (Below.refl _ _)
        simp only [Act.put, List.setIfInBounds_toArray, List.set_cons_zero, List.set_cons_succ]
        refine Tab.cons IsV.lasting (fun wx hx hd => ?_) (fun v4 => ?_)
        · skip
          have e78 : v78 = _ := (hd _ (.head _) (by kernel_rfl) : (IsV (.bool true)) v78 wx)
          subst e78
          clear hd
          intro KK hK
          go_simp
          exact hK.out _ _ rfl (Below.refl _ _)
        simp only [Act.put, List.setIfInBounds_toArray, List.set_cons_zero, List.set_cons_succ]
        refine Tab.nil fun wx hx hd => ?_
        have e4 : v4 = _ := (hd _ (.head _) : (IsV (.bool true)) v4 wx)
        subst e4
        clear hd
        go_wp2
        go_ret
        exact ⟨by rfl, below_step hx.out hB⟩
end Go.Proofs.Ytlomanhmpbapeaa
