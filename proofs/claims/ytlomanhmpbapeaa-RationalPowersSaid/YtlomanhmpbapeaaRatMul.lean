/- The walk of rational.Mul. -/
import Derived.Test.YtlomanhmpbapeaaMonoQ
namespace Go.Proofs.Ytlomanhmpbapeaa
open Go.RowKit

theorem From.set {W w : World} {g k : Nat} {v : Value} (h : From W w) (hg : W.heap.size ≤ g) : From W (w.setCell ⟨g, k, none⟩ v) := Below.setCell h hg v
theorem BoxQ.upAlloc {w : World} {g : Nat} {s : Bool} {A B : Option Addr} {n c m d : Nat} {o : Obj} (h : BoxQ w g s A n c B m d) : BoxQ (w.alloc o) g s A n c B m d := h.below (below_alloc w o)
theorem BoxQ.new' (w : World) (s : Bool) (A : Option Addr) (n c : Nat) (B : Option Addr) (m d : Nat) {g : Nat} (hg : g = w.heap.size) : BoxQ (w.alloc (.cells #[.bool s, .slice A n c, .slice B m d] 25)) g s A n c B m d := by
  subst hg; exact BoxQ.new w s A n c B m d
theorem mul_flag (p q : Rat) : ratOf (!(qneg p == qneg q)) (p.num.natAbs * q.num.natAbs) (p.den * q.den) = p * q := by rw [show (!(qneg p == qneg q)) = (qneg p != qneg q) from rfl, ratOf_mul, ratOf_self, ratOf_self]
theorem can_one {w : World} {A B : Option Addr} {K : Nat} (h : Rd w A 1 1 (limbs 1)) (h' : Rd w B 1 1 (limbs 1)) (hK : 1 ≤ K) : CanQ w A 1 1 B 1 1 1 K := ⟨h, h', hK, hK⟩

set_option maxHeartbeats 8000000 in
theorem qmul_any (A : Option Addr) (n c : Nat) (ts : List RatT) (w : World) (h : RawL w A n c ts) (K : Nat) (hK1 : 1 ≤ K) (hs : ShortT K ts) (hL : 1 + n * K ≤ 1000) :
    Calls Try.prog 32 #[.slice A n c] w (RetQ (prodT ts) (1 + n * K) w) := by
  have h63 := h.le63
  have HLEN := hide h.len
  have HSH := hide hs
  have HL := hide hL
  obtain ⟨W0, hW0, hS0, q2⟩ := box1 w false none 0 0 none 0 0
  have HW0 := hide hW0
  have hz0 : w.heap.size < W0.heap.size := q2.2
  clear hW0 hs hL
  go_enter Try.func32, Try.ntmps32
  go_wp2_with fail
  rw [← HW0.out]
  refine (qone_any _).mono ?_
  rintro e w1 ⟨rfl, rfl⟩
  go_wp2_with fail
  refine (qone_any _).mono ?_
  rintro e w1 ⟨rfl, rfl⟩
  have h1 := (rd_one W0 W0.heap.size rfl).below (below_alloc _ (.cells #[.int .u32 1] 30))
  have h2 := rd_one (W0.alloc (.cells #[.int .u32 1] 30)) (W0.heap.size + 1) (by simp)
  have e2 : (W0.alloc (.cells #[.int .u32 1] 30)).heap.size = W0.heap.size + 1 := by simp
  have hcan0 := can_one (K := 1) h1 h2 (Nat.le_refl _)
  have hB1 := below_step (below_alloc (W0.alloc (.cells #[.int .u32 1] 30)) (.cells #[.int .u32 1] 30)) (below_step (below_alloc _ (.cells #[.int .u32 1] 30)) hS0)
  have q2b := (q2.below (below_alloc _ (.cells #[.int .u32 1] 30))).below (below_alloc _ (.cells #[.int .u32 1] 30))
  clear h1 h2 q2
  try rw [e2]
  clear e2
  go_wp2_with fail
  go_loopw [3, 4, 5, 13] (fun sv av bv i wr => ∃ (j : Nat) (As : Option Addr) (ns cs : Nat) (Bs : Option Addr) (ms ds : Nat), j ≤ n ∧ i = .int .i64 (j : Int) ∧ sv = .bool (qneg (prodT (ts.take j))) ∧ av = .slice As ns cs ∧ bv = .slice Bs ms ds ∧ CanQ wr As ns cs Bs ms ds (prodT (ts.take j)) (1 + j * K) ∧ BoxQ wr w.heap.size false none 0 0 none 0 0 ∧ Below w.heap.size w wr) (fun _ _ _ i _ => n - (intOf i).toNat)
  case atStart => exact ⟨0, _, _, _, _, _, _, Nat.zero_le _, rfl, rfl, rfl, rfl, hcan0.wide (by omega), q2b, hB1⟩
  case round =>
    clear hcan0 q2b hB1
    obtain ⟨j, As, ns, cs, Bs, ms, ds, hj, rfl, rfl, rfl, rfl, hcan, q2, hS⟩ := hrel
    by_cases hlt : j < n
    · obtain ⟨b, off, rfl, hb, hcells⟩ := (h.below hS).cells (by omega)
      obtain ⟨An, nn, cn, Ad, nd, cd, g1, g2, g3, g4, g5⟩ := hcells j hlt
      have hjl : j < ts.length := by rw [HLEN.out]; exact hlt
      have HST := hide (prodT_take hjl)
      have hmem : ts.getD j (false, [], []) ∈ ts := by
        rw [List.getD_eq_getElem?_getD, List.getElem?_eq_getElem hjl]
        exact List.getElem_mem hjl
      obtain ⟨hr1, hr2⟩ := HSH.out _ hmem
      have hnn : nn ≤ K := by rw [← g4.len]; exact hr1
      have hnd : nd ≤ K := by rw [← g5.len]; exact hr2
      have hbnd : (j + 1) * K ≤ n * K := Nat.mul_le_mul_right _ hlt
      have HX : Hid (1 + (j + 1) * K = 1 + j * K + K) := by rw [Hid, Nat.succ_mul]; omega
      have hX0 : 1 + j * K + K ≤ 1000 := by rw [← HX.out]; have := HL.out; omega
      have hX1 : 1 ≤ 1 + j * K := by omega
      clear hcells hjl hmem hr1 hr2 hbnd
      generalize ts.getD j (false, [], []) = t at *
      generalize 1 + j * K = X at *
      generalize hP : prodT (ts.take j) = P at *
      obtain ⟨s, ln, ld⟩ := t
      simp only at g1 g4 g5
      have hraw : RawQ wr s An nn cn Ad nd cd (ratT (s, ln, ld)) K := ⟨⟨ln, ld, g4, g5, rfl⟩, hnn, hnd⟩
      generalize ratT (s, ln, ld) = qt at *
      obtain ⟨W1, hW1, hSW, q7⟩ := box1 wr s An nn cn Ad nd cd
      have HW1 := hide hW1
      clear hW1 hP g4 g5 h
      go_wp2_with fail
      rw [← HW1.out]
      refine (trim_q _ _ _ _ _ _ _ _ K _ (hraw.below hSW) hK1 (by omega)).mono ?_
      rintro e w2 ⟨A7, n7, c7, B7, m7, d7, rfl, hcan7, hb2⟩
      have q72 := q7.below hb2
      have hc7 := q72.cells
      have hf7 := q72.free
      have hB2 := below_step hb2 hSW
      have hcanP := hcan.below hB2
      have q2c := q2.below hB2
      have hBw := below_step hB2 hS
      have hz7 := q72.2
      clear g1 g2 g3 hraw hcan hb
      go_wp2_with fail
      have ho := only3 w2 wr.heap.size (.bool (qneg qt)) (.slice A7 n7 c7) (.slice B7 m7 d7)
      have q7s := q72.store3 (qneg qt) A7 n7 c7 B7 m7 d7
      have hcan7s := hcan7.far ho q72.noNum
      have hcanPs := hcanP.far ho q72.noNum
      have q2s := BoxQ.only (g' := wr.heap.size) q2c ho (by have := q2.2; omega)
      have hBs := below3 hBw (show w.heap.size ≤ wr.heap.size by have := q2.2; omega) (.bool (qneg qt)) (.slice A7 n7 c7) (.slice B7 m7 d7)
      obtain ⟨W, hW⟩ : ∃ W, W = ((w2.setCell ⟨wr.heap.size, 0, none⟩ (.bool (qneg qt))).setCell ⟨wr.heap.size, 1, none⟩ (.slice A7 n7 c7)).setCell ⟨wr.heap.size, 2, none⟩ (.slice B7 m7 d7) := ⟨_, rfl⟩
      rw [← hW] at q7s hcan7s hcanPs q2s hBs ⊢
      have e1 := hcanPs.num
      have e2 := hcanPs.den
      have e3 := hcan7s.num
      have e4 := hcan7s.den
      have l1 : (limbs P.num.natAbs).length ≤ X := by rw [e1.len]; exact hcanPs.hn
      have l2 : (limbs P.den).length ≤ X := by rw [e2.len]; exact hcanPs.hm
      have l3 : (limbs qt.num.natAbs).length ≤ K := by rw [e3.len]; exact hcan7s.hn
      have l4 : (limbs qt.den).length ≤ K := by rw [e4.len]; exact hcan7s.hm
      have HE := hide (mul_flag P qt)
      have Q7 := hide q7s
      have Q2 := hide q2s
      have hz2 := q2s.2
      clear hW hc7 hf7 ho hcan7 hcanP q72 q2c hBw hB2 hcan7s hcanPs q7 q2 q7s q2s hSW HW1
      have hc7 := Q7.out.cells
      have hF := From.refl W
      go_cut [8] from 19 to 33 (fun v8 wx => ∃ g8 A8 n8 c8 B8 m8 d8, v8 = .pointer (some ⟨g8, 0, none⟩) ∧ BoxQ wx g8 (qneg (P * qt)) A8 n8 c8 B8 m8 d8 ∧ CanQ wx A8 n8 c8 B8 m8 d8 (P * qt) (X + K) ∧ From W wx)
      case first =>
        refine wp_region_tab 16 45 [IsV (.bool (qneg P)), IsV (.pointer (some ⟨wr.heap.size, 0, none⟩)), IsV (.bool (qneg qt)), IsV (.bool (!(qneg P == qneg qt))), IsV (.slice As ns cs), IsV (.pointer (some ⟨wr.heap.size, 1, none⟩)), IsV (.slice A7 n7 c7), IsNL (limbs P.num.natAbs) (limbs qt.num.natAbs), IsN (P.num.natAbs * qt.num.natAbs) (X + K), IsV (.slice Bs ms ds), IsV (.pointer (some ⟨wr.heap.size, 2, none⟩)), IsV (.slice B7 m7 d7), IsNL (limbs P.den) (limbs qt.den), IsN (P.den * qt.den) (X + K), IsQ (P * qt) (X + K), IsBox W.heap.size] (From W) (by kernel_rfl) (by kernel_rfl) (by kernel_rfl) rfl From.lasting (From.drew hF) ?_
        simp only [List.take_succ_cons, List.drop_succ_cons, List.take_zero, List.drop_zero]
        refine Tab.cons IsV.lasting (fun wx hx hd => ?_) (fun v19 => ?_)
        · skip
          clear hd
          intro KK hK
          go_simp
          exact hK.out _ _ rfl (Below.refl _ _)
        simp only [Act.put, List.setIfInBounds_toArray, List.set_cons_zero, List.set_cons_succ]
        refine Tab.cons IsV.lasting (fun wx hx hd => ?_) (fun v20 => ?_)
        · skip
          clear hd
          intro KK hK
          go_simp
          exact hK.out _ _ rfl (Below.refl _ _)
        simp only [Act.put, List.setIfInBounds_toArray, List.set_cons_zero, List.set_cons_succ]
        refine Tab.cons IsV.lasting (fun wx hx hd => ?_) (fun v21 => ?_)
        · skip
          have e20 : v20 = _ := (hd _ (.head _) (by kernel_rfl) : (IsV (.pointer (some ⟨wr.heap.size, 0, none⟩))) v20 wx)
          subst e20
          clear hd
          intro KK hK
          have hc7 := (Q7.out.later hx).cells
          go_simp
          exact hK.out _ _ rfl (Below.refl _ _)
        simp only [Act.put, List.setIfInBounds_toArray, List.set_cons_zero, List.set_cons_succ]
        refine Tab.cons IsV.lasting (fun wx hx hd => ?_) (fun v22 => ?_)
        · skip
          have e19 : v19 = _ := (hd _ (.tail _ (.tail _ (.head _))) (by kernel_rfl) : (IsV (.bool (qneg P))) v19 wx)
          subst e19
          have e21 : v21 = _ := (hd _ (.head _) (by kernel_rfl) : (IsV (.bool (qneg qt))) v21 wx)
          subst e21
          clear hd
          intro KK hK
          go_simp
          exact hK.out _ _ rfl (Below.refl _ _)
        simp only [Act.put, List.setIfInBounds_toArray, List.set_cons_zero, List.set_cons_succ]
        refine Tab.cons IsV.lasting (fun wx hx hd => ?_) (fun v23 => ?_)
        · skip
          clear hd
          intro KK hK
          go_simp
          exact hK.out _ _ rfl (Below.refl _ _)
        simp only [Act.put, List.setIfInBounds_toArray, List.set_cons_zero, List.set_cons_succ]
        refine Tab.cons IsV.lasting (fun wx hx hd => ?_) (fun v24 => ?_)
        · skip
          clear hd
          intro KK hK
          go_simp
          exact hK.out _ _ rfl (Below.refl _ _)
        simp only [Act.put, List.setIfInBounds_toArray, List.set_cons_zero, List.set_cons_succ]
        refine Tab.cons IsV.lasting (fun wx hx hd => ?_) (fun v25 => ?_)
        · skip
          have e24 : v24 = _ := (hd _ (.head _) (by kernel_rfl) : (IsV (.pointer (some ⟨wr.heap.size, 1, none⟩))) v24 wx)
          subst e24
          clear hd
          intro KK hK
          have hc7 := (Q7.out.later hx).cells
          go_simp
          exact hK.out _ _ rfl (Below.refl _ _)
        simp only [Act.put, List.setIfInBounds_toArray, List.set_cons_zero, List.set_cons_succ]
        refine Tab.cons IsNL.lasting (fun wx hx hd => ?_) (fun v26 => ?_)
        · skip
          have e23 : v23 = _ := (hd _ (.tail _ (.tail _ (.head _))) (by kernel_rfl) : (IsV (.slice As ns cs)) v23 wx)
          subst e23
          have e25 : v25 = _ := (hd _ (.head _) (by kernel_rfl) : (IsV (.slice A7 n7 c7)) v25 wx)
          subst e25
          clear hd
          intro KK hK
          go_simp
          exact hK.out _ _ ⟨_, rfl, rdl_two' rfl (Rd.up hx.out e1) (Rd.up hx.out e3)⟩ (below_alloc _ _)
        simp only [Act.put, List.setIfInBounds_toArray, List.set_cons_zero, List.set_cons_succ]
        refine Tab.cons IsN.lasting (fun wx hx hd => ?_) (fun v27 => ?_)
        · skip
          obtain ⟨g26, rfl, h26⟩ := (hd _ (.head _) (by kernel_rfl) : (IsNL (limbs P.num.natAbs) (limbs qt.num.natAbs)) v26 wx)
          clear hd
          intro KK hK
          go_simp
          refine (mulL h26 l1 l3 (by omega) (by omega)).mono ?_
          rintro e w' ⟨A', n', c', rfl, h', hb', hn'⟩
          simp only [val_limbs] at h'
          exact hK.out _ _ ⟨A', n', c', rfl, h', hn'⟩ hb'
        simp only [Act.put, List.setIfInBounds_toArray, List.set_cons_zero, List.set_cons_succ]
        refine Tab.cons IsV.lasting (fun wx hx hd => ?_) (fun v28 => ?_)
        · skip
          clear hd
          intro KK hK
          go_simp
          exact hK.out _ _ rfl (Below.refl _ _)
        simp only [Act.put, List.setIfInBounds_toArray, List.set_cons_zero, List.set_cons_succ]
        refine Tab.cons IsV.lasting (fun wx hx hd => ?_) (fun v29 => ?_)
        · skip
          clear hd
          intro KK hK
          go_simp
          exact hK.out _ _ rfl (Below.refl _ _)
        simp only [Act.put, List.setIfInBounds_toArray, List.set_cons_zero, List.set_cons_succ]
        refine Tab.cons IsV.lasting (fun wx hx hd => ?_) (fun v30 => ?_)
        · skip
          have e29 : v29 = _ := (hd _ (.head _) (by kernel_rfl) : (IsV (.pointer (some ⟨wr.heap.size, 2, none⟩))) v29 wx)
          subst e29
          clear hd
          intro KK hK
          have hc7 := (Q7.out.later hx).cells
          go_simp
          exact hK.out _ _ rfl (Below.refl _ _)
        simp only [Act.put, List.setIfInBounds_toArray, List.set_cons_zero, List.set_cons_succ]
        refine Tab.cons IsNL.lasting (fun wx hx hd => ?_) (fun v31 => ?_)
        · skip
          have e28 : v28 = _ := (hd _ (.tail _ (.tail _ (.head _))) (by kernel_rfl) : (IsV (.slice Bs ms ds)) v28 wx)
          subst e28
          have e30 : v30 = _ := (hd _ (.head _) (by kernel_rfl) : (IsV (.slice B7 m7 d7)) v30 wx)
          subst e30
          clear hd
          intro KK hK
          go_simp
          exact hK.out _ _ ⟨_, rfl, rdl_two' rfl (Rd.up hx.out e2) (Rd.up hx.out e4)⟩ (below_alloc _ _)
        simp only [Act.put, List.setIfInBounds_toArray, List.set_cons_zero, List.set_cons_succ]
        refine Tab.cons IsN.lasting (fun wx hx hd => ?_) (fun v32 => ?_)
        · skip
          obtain ⟨g31, rfl, h31⟩ := (hd _ (.head _) (by kernel_rfl) : (IsNL (limbs P.den) (limbs qt.den)) v31 wx)
          clear hd
          intro KK hK
          go_simp
          refine (mulL h31 l2 l4 (by omega) (by omega)).mono ?_
          rintro e w' ⟨A', n', c', rfl, h', hb', hn'⟩
          simp only [val_limbs] at h'
          exact hK.out _ _ ⟨A', n', c', rfl, h', hn'⟩ hb'
        simp only [Act.put, List.setIfInBounds_toArray, List.set_cons_zero, List.set_cons_succ]
        refine Tab.cons IsQ.lasting (fun wx hx hd => ?_) (fun v33 => ?_)
        · skip
          have e22 : v22 = _ := (hd _ (.tail _ (.tail _ (.tail _ (.tail _ (.tail _ (.tail _ (.tail _ (.tail _ (.tail _ (.tail _ (.head _))))))))))) (by kernel_rfl) : (IsV (.bool (!(qneg P == qneg qt)))) v22 wx)
          subst e22
          obtain ⟨A27, n27, c27, rfl, h27, k27⟩ := (hd _ (.tail _ (.tail _ (.tail _ (.tail _ (.tail _ (.head _)))))) (by kernel_rfl) : (IsN (P.num.natAbs * qt.num.natAbs) (X + K)) v27 wx)
          obtain ⟨A32, n32, c32, rfl, h32, k32⟩ := (hd _ (.head _) (by kernel_rfl) : (IsN (P.den * qt.den) (X + K)) v32 wx)
          clear hd
          intro KK hK
          go_simp
          refine (canonical_eq (K := X + K) (r := P * qt) h27 h32 (by simpa only [val_limbs] using HE.out) k27 k32 (by omega) (by omega)).mono ?_
          rintro e w' ⟨A8, n8, c8, B8, m8, d8, rfl, hcan8, hb'⟩
          exact hK.out _ _ ⟨A8, n8, c8, B8, m8, d8, rfl, hcan8⟩ hb'
        simp only [Act.put, List.setIfInBounds_toArray, List.set_cons_zero, List.set_cons_succ]
        refine Tab.cons IsBox.lasting (fun wx hx hd => ?_) (fun v8 => ?_)
        · skip
          clear hd
          intro KK hK
          go_simp
          exact hK.out _ _ ⟨_, hx.out.size, rfl, BoxQ.new _ _ _ _ _ _ _ _⟩ (below_alloc _ _)
        simp only [Act.put, List.setIfInBounds_toArray, List.set_cons_zero, List.set_cons_succ]
        refine Tab.nil fun wx hx hd => ?_
        obtain ⟨A33, n33, c33, B33, m33, d33, rfl, h33⟩ := (hd _ (.tail _ (.head _)) : (IsQ (P * qt) (X + K)) v33 wx)
        obtain ⟨g8, j8, rfl, h8⟩ := (hd _ (.head _) : (IsBox W.heap.size) v8 wx)
        clear hd
        have hc8 := h8.cells
        have hf8 := h8.free
        go_wp2
        go_meet
        case rel => exact ⟨g8, A33, n33, c33, B33, m33, d33, rfl, h8.store3 _ _ _ _ _ _ _, h33.store3 h8.noNum, Below.up3 j8 hx⟩
      case rest =>
        obtain ⟨g8, A8, n8, c8, B8, m8, d8, rfl, q8, h8, hF8⟩ := hcut
        have Q2' := Q2.out.later hF8
        have hB8 := below_step hF8.out hBs
        clear hc7 hF
        go_wp2_with fail
        refine wp_region_tab 9 45 [IsV (.pointer (some ⟨g8, 0, none⟩)), IsV (.bool (qneg (P * qt))), IsV (.pointer (some ⟨g8, 1, none⟩)), IsV (.slice A8 n8 c8), IsV (.pointer (some ⟨g8, 2, none⟩)), IsV (.slice B8 m8 d8), IsV (.bool (qneg (P * qt))), IsV (.slice A8 n8 c8), IsV (.slice B8 m8 d8)] (From wc) (by kernel_rfl) (by kernel_rfl) (by kernel_rfl) rfl From.lasting (From.drew (From.refl _)) ?_
        simp only [List.take_succ_cons, List.drop_succ_cons, List.take_nil, List.drop_nil]
        refine Tab.cons IsV.lasting (fun wx hx hd => ?_) (fun v34 => ?_)
        · skip
          clear hd
          intro KK hK
          go_simp
          exact hK.out _ _ rfl (Below.refl _ _)
        simp only [Act.put, List.setIfInBounds_toArray, List.set_cons_zero, List.set_cons_succ]
        refine Tab.cons IsV.lasting (fun wx hx hd => ?_) (fun v35 => ?_)
        · skip
          have e34 : v34 = _ := (hd _ (.head _) (by kernel_rfl) : (IsV (.pointer (some ⟨g8, 0, none⟩))) v34 wx)
          subst e34
          clear hd
          intro KK hK
          have hc8 := (q8.later hx).cells
          go_simp
          exact hK.out _ _ rfl (Below.refl _ _)
        simp only [Act.put, List.setIfInBounds_toArray, List.set_cons_zero, List.set_cons_succ]
        refine Tab.cons IsV.lasting (fun wx hx hd => ?_) (fun v36 => ?_)
        · skip
          clear hd
          intro KK hK
          go_simp
          exact hK.out _ _ rfl (Below.refl _ _)
        simp only [Act.put, List.setIfInBounds_toArray, List.set_cons_zero, List.set_cons_succ]
        refine Tab.cons IsV.lasting (fun wx hx hd => ?_) (fun v37 => ?_)
        · skip
          have e36 : v36 = _ := (hd _ (.head _) (by kernel_rfl) : (IsV (.pointer (some ⟨g8, 1, none⟩))) v36 wx)
          subst e36
          clear hd
          intro KK hK
          have hc8 := (q8.later hx).cells
          go_simp
          exact hK.out _ _ rfl (Below.refl _ _)
        simp only [Act.put, List.setIfInBounds_toArray, List.set_cons_zero, List.set_cons_succ]
        refine Tab.cons IsV.lasting (fun wx hx hd => ?_) (fun v38 => ?_)
        · skip
          clear hd
          intro KK hK
          go_simp
          exact hK.out _ _ rfl (Below.refl _ _)
        simp only [Act.put, List.setIfInBounds_toArray, List.set_cons_zero, List.set_cons_succ]
        refine Tab.cons IsV.lasting (fun wx hx hd => ?_) (fun v39 => ?_)
        · skip
          have e38 : v38 = _ := (hd _ (.head _) (by kernel_rfl) : (IsV (.pointer (some ⟨g8, 2, none⟩))) v38 wx)
          subst e38
          clear hd
          intro KK hK
          have hc8 := (q8.later hx).cells
          go_simp
          exact hK.out _ _ rfl (Below.refl _ _)
        simp only [Act.put, List.setIfInBounds_toArray, List.set_cons_zero, List.set_cons_succ]
        refine Tab.cons IsV.lasting (fun wx hx hd => ?_) (fun v3 => ?_)
        · skip
          have e35 : v35 = _ := (hd _ (.tail _ (.tail _ (.tail _ (.tail _ (.head _))))) (by kernel_rfl) : (IsV (.bool (qneg (P * qt)))) v35 wx)
          subst e35
          clear hd
          intro KK hK
          go_simp
          exact hK.out _ _ rfl (Below.refl _ _)
        simp only [Act.put, List.setIfInBounds_toArray, List.set_cons_zero, List.set_cons_succ]
        refine Tab.cons IsV.lasting (fun wx hx hd => ?_) (fun v4 => ?_)
        · skip
          have e37 : v37 = _ := (hd _ (.tail _ (.tail _ (.tail _ (.head _)))) (by kernel_rfl) : (IsV (.slice A8 n8 c8)) v37 wx)
          subst e37
          clear hd
          intro KK hK
          go_simp
          exact hK.out _ _ rfl (Below.refl _ _)
        simp only [Act.put, List.setIfInBounds_toArray, List.set_cons_zero, List.set_cons_succ]
        refine Tab.cons IsV.lasting (fun wx hx hd => ?_) (fun v5 => ?_)
        · skip
          have e39 : v39 = _ := (hd _ (.tail _ (.tail _ (.head _))) (by kernel_rfl) : (IsV (.slice B8 m8 d8)) v39 wx)
          subst e39
          clear hd
          intro KK hK
          go_simp
          exact hK.out _ _ rfl (Below.refl _ _)
        simp only [Act.put, List.setIfInBounds_toArray, List.set_cons_zero, List.set_cons_succ]
        refine Tab.nil fun wx hx hd => ?_
        have e3 : v3 = _ := (hd _ (.tail _ (.tail _ (.head _))) : (IsV (.bool (qneg (P * qt)))) v3 wx)
        subst e3
        have e4 : v4 = _ := (hd _ (.tail _ (.head _)) : (IsV (.slice A8 n8 c8)) v4 wx)
        subst e4
        have e5 : v5 = _ := (hd _ (.head _) : (IsV (.slice B8 m8 d8)) v5 wx)
        subst e5
        clear hd
        go_wp2
        go_roundw
        case rel => exact ⟨j + 1, A8, n8, c8, B8, m8, d8, by omega, by go_num, by rw [HST.out], rfl, rfl, by rw [HST.out, HX.out]; exact h8.below hx.out, Q2'.later hx, below_step hx.out hB8⟩
        case measure => simp [intOf]; omega
    · obtain rfl : j = n := by omega
      have hall : ts.take j = ts := List.take_of_length_le (by rw [HLEN.out]; exact Nat.le_refl _)
      rw [hall] at hcan
      rw [hall]
      have hcg := q2.cells
      have hfg := q2.free
      have hno := q2.noNum
      clear hall
      go_wp2
      exact bodyPost_ret (v := .agg #[.bool (qneg (prodT ts)), .slice As ns cs, .slice Bs ms ds]) (by simp [results, Try.results32, go_sem, hcg]) rfl ⟨As, ns, cs, Bs, ms, ds, rfl, hcan.store3 hno, below3 hS (Nat.le_refl _) _ _ _⟩
end Go.Proofs.Ytlomanhmpbapeaa
