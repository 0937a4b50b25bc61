/- Products of polynomials: the walks of Enumerators.Mul and PolyMul. -/
import Derived.Test.YtonimfogmplgdaaPolyE
import Derived.Test.YtonimfogmplgdaaPolyA
namespace Go.Proofs.Ytonimfogmplgdaa
open Go.RowKit
theorem RdV.none (K : Nat) (w : World) (A : Option Addr) : RdV (natC K) 0 w 1 A 0 0 [] := ⟨rfl, Nat.le_refl _, Nat.zero_le _, fun h => absurd h (by omega)⟩
theorem RdV.small {K : Nat} {w : World} {A : Option Addr} {n c : Nat} {xs : List Nat} (h : RdV (natC K) 0 w 1 A n c xs) (k : Nat) : (limbs (xs.getD k 0)).length ≤ K := by
  have h1 := h.few k
  by_cases hk : k < xs.length
  · have e1 : (xs.map limbs).getD k [] = limbs (xs.getD k 0) := by
      simp only [List.getD_eq_getElem?_getD, List.getElem?_map, List.getElem?_eq_getElem hk]
      rfl
    rwa [e1] at h1
  · rw [co_far (by omega), limbs_zero]
    exact Nat.zero_le _
theorem limbs_prod {x y K L : Nat} (hx : (limbs x).length ≤ K) (hy : (limbs y).length ≤ L) : (limbs (x * y)).length ≤ K + L := by
  have h1 := Nat.lt_of_lt_of_le (lt_pow_length x) (pow_le_pow_limb hx)
  have h2 := Nat.lt_of_lt_of_le (lt_pow_length y) (pow_le_pow_limb hy)
  exact length_limbs_le (mul_lt_pow h1 h2)
theorem cv_more (a b : List Nat) (i j : Nat) : cv a b i (j + 1) (i + j) = cv a b i j (i + j) + a.getD i 0 * b.getD j 0 := by
  unfold cv
  rw [if_pos ⟨by omega, by omega⟩, if_neg (by omega), show i + j - i = j by omega]
  omega
theorem cv_limbs {a b : List Nat} {K L i j k : Nat} (ha : ∀ k, (limbs (a.getD k 0)).length ≤ K) (hb : ∀ k, (limbs (b.getD k 0)).length ≤ L) (hi : i + 1 < 4294967296) : (limbs (cv a b i j k)).length ≤ K + L + 1 := by
  have h1 := cv_le (a := a) (b := b) (A := 4294967296 ^ K) (B := 4294967296 ^ L) (fun k => Nat.le_of_lt (Nat.lt_of_lt_of_le (lt_pow_length _) (pow_le_pow_limb (ha k)))) (fun k => Nat.le_of_lt (Nat.lt_of_lt_of_le (lt_pow_length _) (pow_le_pow_limb (hb k)))) i j k
  refine length_limbs_le (Nat.lt_of_le_of_lt h1 ?_)
  rw [Nat.pow_succ, Nat.pow_add, Nat.mul_comm]
  exact Nat.mul_lt_mul_of_pos_left hi (Nat.mul_pos (Nat.pow_pos (by omega)) (Nat.pow_pos (by omega)))

set_option maxHeartbeats 8000000 in
set_option maxRecDepth 10000 in
theorem pmul_any (w : World) (A : Option Addr) (n c : Nat) (ll : List (List Nat)) (A2 : Option Addr) (n2 c2 : Nat) (kk : List (List Nat)) (K L : Nat) (h : RdL w A n c ll) (hKa : ∀ k, (ll.getD k []).length ≤ K) (h' : RdL w A2 n2 c2 kk) (hKb : ∀ k, (kk.getD k []).length ≤ L)
    (hK0 : K ≤ 10000) (hL0 : L ≤ 10000) (hn : n ≤ 10000) (hn2 : n2 ≤ 10000) :
    Calls Try.prog 23 #[.agg #[], .slice A n c, .slice A2 n2 c2] w (RetP (mulP (ll.map val) (kk.map val)) (K + L + 1) w) := by
  obtain ⟨i0, hy0, hy1, hy2, hy3⟩ := info_parts Try.infoNatP
  obtain ⟨p, hp⟩ : ∃ p, p = trimN (ll.map val) := ⟨_, rfl⟩
  obtain ⟨q, hq⟩ : ∃ q, q = trimN (kk.map val) := ⟨_, rfl⟩
  have hpn : p.length ≤ n := by
    have h8 := trimN_len_le (ll.map val)
    rw [List.length_map, ← hp] at h8
    have := h.len
    omega
  have hqn : q.length ≤ n2 := by
    have h8 := trimN_len_le (kk.map val)
    rw [List.length_map, ← hq] at h8
    have := h'.len
    omega
  rw [show mulP (ll.map val) (kk.map val) = mulP p q by rw [hp, hq, mulP_trim]]
  obtain ⟨K1, hK9⟩ : ∃ K1, K1 = K + L + 1 := ⟨_, rfl⟩
  rw [← hK9]
  have hK1 : K1 ≤ 20001 := by omega
  have HK9 := hide hK9
  have HPD := hide hp
  have HQD := hide hq
  have HPN := hide hpn
  have HQN := hide hqn
  clear hp hq hK9 hpn hqn
  obtain ⟨W0, hW0⟩ : ∃ W0, W0 = w.alloc (.cells #[] 37) := ⟨_, rfl⟩
  have hS : Below w.heap.size w W0 := by rw [hW0]; exact below_alloc w _
  have h1 := h.below hS
  have h2 := h'.below hS
  have HW := hide hW0
  clear hW0 h h'
  go_enter Try.func23, Try.ntmps23
  go_upto_region 1 with (fail)
  rw [← HW.out]
  go_wp2_with fail
  refine (enumerator_any _ A n c ll K h1 hKa (by omega) (by omega)).mono ?_
  rintro e w1 ⟨A3, n3, c3, rfl, r1, hb1⟩
  rw [← HPD.out] at r1
  go_wp2_with fail
  refine (enumerator_any _ A2 n2 c2 kk L (h2.below hb1) hKb (by omega) (by omega)).mono ?_
  rintro e w2 ⟨A4, n4, c4, rfl, r2, hb2⟩
  rw [← HQD.out] at r2
  have p1 := r1.below hb2
  have hB0 := below_step (below_step hb2 hb1) hS
  have hpl : p.length = n3 := by have := p1.len; omega
  have hql : q.length = n4 := by have := r2.len; omega
  have hn3 : n3 ≤ 10000 := by have := HPN.out; omega
  have hn4 : n4 ≤ 10000 := by have := HQN.out; omega
  have HB0 := hide hB0
  have HPA := hide (fun k => p1.small k)
  have HQA := hide (fun k => r2.small k)
  clear r1 hb1 hb2 h1 h2 hB0 HPD HQD HPN HQN hKa hKb
  by_cases hz3 : n3 = 0
  · subst hz3
    have hp0 : p = [] := List.eq_nil_of_length_eq_zero hpl
    have HE : Hid (mulP p q = []) := by rw [Hid, hp0]; exact mulP_nil_left q
    have hba := below_step (below_alloc w2 (.cells #[] 23)) HB0.out
    clear hpl hql hp0
    go_wp2
    go_ret
    exact ⟨_, 0, 0, rfl, by rw [HE.out]; exact RdV.none _ _ _, hba⟩
  by_cases hz4 : n4 = 0
  · subst hz4
    have hq0 : q = [] := List.eq_nil_of_length_eq_zero hql
    have HE : Hid (mulP p q = []) := by rw [Hid, hq0]; exact mulP_nil_right p
    have hba := below_step (below_alloc w2 (.cells #[] 23)) HB0.out
    have hb3 : ((n3 : Int) == 0) = false := by simp; omega
    clear hpl hql hq0
    go_wp2
    go_ret
    exact ⟨_, 0, 0, rfl, by rw [HE.out]; exact RdV.none _ _ _, hba⟩
  have hb3 : ((n3 : Int) == 0) = false := by simp; omega
  have hb4 : ((n4 : Int) == 0) = false := by simp; omega
  have HPL := hide hpl
  have HQL := hide hql
  obtain ⟨N, hN⟩ : ∃ N, N = n3 + n4 - 1 := ⟨_, rfl⟩
  have HNI : Hid (((n3 : Int) + (n4 : Int) - 1) = (N : Int)) := by unfold Hid; omega
  have hN1 : N ≤ 20000 := by omega
  have HNN := hide (show n3 + n4 ≤ N + 1 by omega)
  clear hpl hql hN
  go_wp2_with (at_make; rw [HNI.out]; refine wpList_make_row _ rfl _ _ _ 23 rfl i0 _ 1 24 Try.underlying29 hy0 hy1 hy2 hy3 _ _ _ _ N rfl rfl rfl rfl (by omega) (by unfold maxLen; omega) ?_; intro w3 hown1 hb1)
  rw [madeCells_one (show (Value.slice none 0 0).cells = #[Value.slice none 0 0] from rfl)] at hown1
  have hO := OwnV.made (base := w2.heap.size) K1 hown1
  clear hown1
  go_loopw [10, 11, 36] (fun _ _ iv wr => ∃ i : Nat, i ≤ n3 ∧ iv = .int .i64 (i : Int) ∧ OwnV K1 wr w2.heap.size w2.heap.size N (cvL N p q i 0) ∧ Below w2.heap.size w2 wr) (fun _ _ iv _ => n3 - (intOf iv).toNat)
  case atStart => exact ⟨0, Nat.zero_le _, rfl, by rw [cvL_zero]; exact hO, hb1⟩
  case round =>
    clear hO hb1
    obtain ⟨i, hi, rfl, hO, hB⟩ := hrel
    by_cases hlt : i < n3
    · obtain ⟨bp, op, vX, he, hbp, hcX, AX, nX, cX, rfl, hRX, hKX⟩ := p1.at1 hlt
      subst he
      have hcellX := (hB.cell (p := ⟨bp, op + i, none⟩) hbp).trans hcX
      have HCX := hide hcX
      have HRX := hide hRX
      have hnX : nX ≤ 10000 := by omega
      have HO0 := hide (And.intro hO hB)
      by_cases hx0 : p.getD i 0 = 0
      · have hn0 : nX = 0 := (limbs_pos_iff hRX).2 hx0
        subst hn0
        have HSK := hide (cvL_skip (n := N) (b := q) hx0)
        have hO1 := hO
        rw [HSK.out] at hO1
        have HO1 := hide hO1
        clear hO1 hO hx0 hcX hRX
        go_wp2
        go_roundw
        case rel => exact ⟨i + 1, by omega, by go_num, HO1.out, hB⟩
        case measure => simp [intOf]; omega
      have hnx0 : ((nX : Int) == 0) = false := by
        have : nX ≠ 0 := fun h9 => hx0 ((limbs_pos_iff hRX).1 h9)
        simp
        exact this
      clear hx0
      clear hcX hRX hO hB
      obtain ⟨wo, rfl⟩ : ∃ wo : World, wo = wr := ⟨_, rfl⟩
      go_wp2_with fail
      clear hcellX
      go_loopw [12, 13, 46] (fun _ _ jv wr => ∃ j : Nat, j ≤ n4 ∧ jv = .int .i64 (j : Int) ∧ OwnV K1 wr w2.heap.size w2.heap.size N (cvL N p q i j) ∧ Below w2.heap.size w2 wr) (fun _ _ jv _ => n4 - (intOf jv).toNat)
      case atStart => exact ⟨0, Nat.zero_le _, rfl, HO0.out.1, HO0.out.2⟩
      case round =>
        clear HO0
        obtain ⟨j, hj, rfl, hO, hB⟩ := hrel
        have HO := hide hO
        have HB := hide hB
        clear hO hB
        by_cases hltj : j < n4
        · obtain ⟨bq, oq, vY, he, hbq, hcY, AY, nY, cY, rfl, hRY, hKY⟩ := r2.at1 hltj
          subst he
          have hcellY := (HB.out.cell (p := ⟨bq, oq + j, none⟩) hbq).trans hcY
          have hnY : nY ≤ 10000 := by omega
          have HIJ : Hid (i + j < N) := by have := HNN.out; unfold Hid; omega
          obtain ⟨AZ, nZ, cZ, hcZ, hrZ, hkZ, _⟩ := HO.out.cell HIJ.out
          have hnZ : nZ ≤ 20001 := by omega
          rw [cvL_co HIJ.out] at hrZ
          have HSET := hide (cvL_set N p q i j)
          have HLS : Hid ((limbs (cv p q i j (i + j) + p.getD i 0 * q.getD j 0)).length ≤ K1) := by
            rw [Hid, ← cv_more, HK9.out]
            exact cv_limbs HPA.out HQA.out (by omega)
          have HLXY : Hid ((limbs (p.getD i 0 * q.getD j 0)).length ≤ K1) := by
            rw [Hid, HK9.out]
            exact Nat.le_trans (limbs_prod (HPA.out i) (HQA.out j)) (Nat.le_succ _)
          have HLX := hide (HPA.out i)
          have HLY := hide (HQA.out j)
          have HLZ : Hid ((limbs (cv p q i j (i + j))).length ≤ K1) := by rw [Hid, hrZ.len]; exact hkZ
          obtain ⟨W, hWd⟩ : ∃ W : World, W = wr := ⟨_, rfl⟩
          subst hWd
          have RX := hide (HRX.out.below HB.out)
          have RY := hide (hRY.below HB.out)
          have RZ := hide hrZ
          have KZ := hide (stays hcZ)

          have q1 : (i : Int) + (j : Int) < (N : Int) := by have := HIJ.out; omega
          have q2 : ((i : Int) + (j : Int)).toNat = i + j := by omega
          have q3 : (0 : Int) ≤ (i : Int) + (j : Int) := by omega
          have q4 : (i : Int) < (n3 : Int) := by omega
          have q5 : (j : Int) < (n4 : Int) := by omega
          clear hrZ hcZ hRY hcY
          generalize cv p q i j (i + j) = z at *
          generalize p.getD i 0 = x at *
          generalize q.getD j 0 = y at *
          go_wp2_with fail
          refine wp_region_tab 16 72 [IsV (.slice (some ⟨w2.heap.size, 0, none⟩) N N), IsV (.int .i64 (i : Int)), IsV (.int .i64 (j : Int)), IsV (.int .i64 ((i : Int) + (j : Int))), IsV (.slice (some ⟨w2.heap.size, 0, none⟩) N N), IsV (.int .i64 (i : Int)), IsV (.int .i64 (j : Int)), IsV (.int .i64 ((i : Int) + (j : Int))), IsV (.pointer (some ⟨w2.heap.size, i + j, none⟩)), IsV (.slice AZ nZ cZ), IsV (.slice AX nX cX), IsV (.slice AY nY cY), IsNp (limbs x) (limbs y), IsNr (x * y) K1, IsNp (limbs z) (limbs (x * y)), IsNr (z + x * y) K1] (From W) (by kernel_rfl) (by kernel_rfl) (by kernel_rfl) rfl From.lastsP (From.drew (From.refl W)) ?_
          simp only [List.take_succ_cons, List.drop_succ_cons, List.take_zero, List.drop_zero]
          refine Tab.cons IsV.lasting (fun wx hx hd => ?_) (fun v51 => ?_)
          · skip
            clear hd
            intro KK hK
            go_simp
            exact hK.out _ _ rfl (Below.refl _ _)
          simp only [Act.put, List.setIfInBounds_toArray, List.set_cons_zero, List.set_cons_succ]
          refine Tab.cons IsV.lasting (fun wx hx hd => ?_) (fun v52 => ?_)
          · skip
            clear hd
            intro KK hK
            go_simp
            exact hK.out _ _ rfl (Below.refl _ _)
          simp only [Act.put, List.setIfInBounds_toArray, List.set_cons_zero, List.set_cons_succ]
          refine Tab.cons IsV.lasting (fun wx hx hd => ?_) (fun v53 => ?_)
          · skip
            clear hd
            intro KK hK
            go_simp
            exact hK.out _ _ rfl (Below.refl _ _)
          simp only [Act.put, List.setIfInBounds_toArray, List.set_cons_zero, List.set_cons_succ]
          refine Tab.cons IsV.lasting (fun wx hx hd => ?_) (fun v54 => ?_)
          · skip
            have e52 : v52 = _ := (hd _ (.tail _ (.head _)) (by kernel_rfl) : (IsV (.int .i64 (i : Int))) v52 wx)
            subst e52
            have e53 : v53 = _ := (hd _ (.head _) (by kernel_rfl) : (IsV (.int .i64 (j : Int))) v53 wx)
            subst e53
            clear hd
            intro KK hK
            go_simp
            rw [show IntKind.i64.wrap ((i : Int) + (j : Int)) = ((i : Int) + (j : Int)) from IntWalk.i64_in _ (by omega)]
            exact hK.out _ _ rfl (Below.refl _ _)
          simp only [Act.put, List.setIfInBounds_toArray, List.set_cons_zero, List.set_cons_succ]
          refine Tab.cons IsV.lasting (fun wx hx hd => ?_) (fun v55 => ?_)
          · skip
            clear hd
            intro KK hK
            go_simp
            exact hK.out _ _ rfl (Below.refl _ _)
          simp only [Act.put, List.setIfInBounds_toArray, List.set_cons_zero, List.set_cons_succ]
          refine Tab.cons IsV.lasting (fun wx hx hd => ?_) (fun v56 => ?_)
          · skip
            clear hd
            intro KK hK
            go_simp
            exact hK.out _ _ rfl (Below.refl _ _)
          simp only [Act.put, List.setIfInBounds_toArray, List.set_cons_zero, List.set_cons_succ]
          refine Tab.cons IsV.lasting (fun wx hx hd => ?_) (fun v57 => ?_)
          · skip
            clear hd
            intro KK hK
            go_simp
            exact hK.out _ _ rfl (Below.refl _ _)
          simp only [Act.put, List.setIfInBounds_toArray, List.set_cons_zero, List.set_cons_succ]
          refine Tab.cons IsV.lasting (fun wx hx hd => ?_) (fun v58 => ?_)
          · skip
            have e56 : v56 = _ := (hd _ (.tail _ (.head _)) (by kernel_rfl) : (IsV (.int .i64 (i : Int))) v56 wx)
            subst e56
            have e57 : v57 = _ := (hd _ (.head _) (by kernel_rfl) : (IsV (.int .i64 (j : Int))) v57 wx)
            subst e57
            clear hd
            intro KK hK
            go_simp
            rw [show IntKind.i64.wrap ((i : Int) + (j : Int)) = ((i : Int) + (j : Int)) from IntWalk.i64_in _ (by omega)]
            exact hK.out _ _ rfl (Below.refl _ _)
          simp only [Act.put, List.setIfInBounds_toArray, List.set_cons_zero, List.set_cons_succ]
          refine Tab.cons IsV.lasting (fun wx hx hd => ?_) (fun v59 => ?_)
          · skip
            have e55 : v55 = _ := (hd _ (.tail _ (.tail _ (.tail _ (.head _)))) (by kernel_rfl) : (IsV (.slice (some ⟨w2.heap.size, 0, none⟩) N N)) v55 wx)
            subst e55
            have e58 : v58 = _ := (hd _ (.head _) (by kernel_rfl) : (IsV (.int .i64 ((i : Int) + (j : Int)))) v58 wx)
            subst e58
            clear hd
            intro KK hK
            go_simp
            exact hK.out _ _ rfl (Below.refl _ _)
          simp only [Act.put, List.setIfInBounds_toArray, List.set_cons_zero, List.set_cons_succ]
          refine Tab.cons IsV.lasting (fun wx hx hd => ?_) (fun v60 => ?_)
          · skip
            have e59 : v59 = _ := (hd _ (.head _) (by kernel_rfl) : (IsV (.pointer (some ⟨w2.heap.size, i + j, none⟩))) v59 wx)
            subst e59
            clear hd
            intro KK hK
            have hcell0 := KZ.out _ hx
            go_simp
            exact hK.out _ _ rfl (Below.refl _ _)
          simp only [Act.put, List.setIfInBounds_toArray, List.set_cons_zero, List.set_cons_succ]
          refine Tab.cons IsV.lasting (fun wx hx hd => ?_) (fun v61 => ?_)
          · skip
            clear hd
            intro KK hK
            go_simp
            exact hK.out _ _ rfl (Below.refl _ _)
          simp only [Act.put, List.setIfInBounds_toArray, List.set_cons_zero, List.set_cons_succ]
          refine Tab.cons IsV.lasting (fun wx hx hd => ?_) (fun v62 => ?_)
          · skip
            clear hd
            intro KK hK
            go_simp
            exact hK.out _ _ rfl (Below.refl _ _)
          simp only [Act.put, List.setIfInBounds_toArray, List.set_cons_zero, List.set_cons_succ]
          refine Tab.cons IsNp.lasting (fun wx hx hd => ?_) (fun v63 => ?_)
          · skip
            have e61 : v61 = _ := (hd _ (.tail _ (.head _)) (by kernel_rfl) : (IsV (.slice AX nX cX)) v61 wx)
            subst e61
            have e62 : v62 = _ := (hd _ (.head _) (by kernel_rfl) : (IsV (.slice AY nY cY)) v62 wx)
            subst e62
            clear hd
            intro KK hK
            go_simp
            exact hK.out _ _ ⟨_, rfl, two_rdl rfl (RX.out.below hx.out) (RY.out.below hx.out)⟩ (below_alloc _ _)
          simp only [Act.put, List.setIfInBounds_toArray, List.set_cons_zero, List.set_cons_succ]
          refine Tab.cons IsNr.lasting (fun wx hx hd => ?_) (fun v64 => ?_)
          · skip
            obtain ⟨g63, rfl, h63⟩ := (hd _ (.head _) (by kernel_rfl) : (IsNp (limbs x) (limbs y)) v63 wx)
            clear hd
            intro KK hK
            go_simp
            refine (two_mul (a := K) (b := L) h63 HLX.out HLY.out (by omega) (by omega)).mono ?_
            rintro e w' ⟨A', n', c', rfl, h', hb', hn'⟩
            rw [val_limbs, val_limbs] at h'
            exact hK.out _ _ ⟨A', n', c', rfl, h', by rw [← h'.len]; exact HLXY.out⟩ hb'
          simp only [Act.put, List.setIfInBounds_toArray, List.set_cons_zero, List.set_cons_succ]
          refine Tab.cons IsNp.lasting (fun wx hx hd => ?_) (fun v65 => ?_)
          · skip
            have e60 : v60 = _ := (hd _ (.tail _ (.tail _ (.tail _ (.tail _ (.head _))))) (by kernel_rfl) : (IsV (.slice AZ nZ cZ)) v60 wx)
            subst e60
            obtain ⟨A64, n64, c64, rfl, h64, k64⟩ := (hd _ (.head _) (by kernel_rfl) : (IsNr (x * y) K1) v64 wx)
            clear hd
            intro KK hK
            go_simp
            exact hK.out _ _ ⟨_, rfl, two_rdl rfl (RZ.out.below hx.out) h64⟩ (below_alloc _ _)
          simp only [Act.put, List.setIfInBounds_toArray, List.set_cons_zero, List.set_cons_succ]
          refine Tab.cons IsNr.lasting (fun wx hx hd => ?_) (fun v66 => ?_)
          · skip
            obtain ⟨g65, rfl, h65⟩ := (hd _ (.head _) (by kernel_rfl) : (IsNp (limbs z) (limbs (x * y))) v65 wx)
            clear hd
            intro KK hK
            go_simp
            refine (two_add (a := K1) h65 HLZ.out HLXY.out (by omega)).mono ?_
            rintro e w' ⟨A', n', c', rfl, h', hb', hn'⟩
            rw [val_limbs, val_limbs] at h'
            exact hK.out _ _ ⟨A', n', c', rfl, h', by rw [← h'.len]; exact HLS.out⟩ hb'
          simp only [Act.put, List.setIfInBounds_toArray, List.set_cons_zero, List.set_cons_succ]
          refine Tab.nil fun wx hx hd => ?_
          have e51 : v51 = _ := (hd _ (.tail _ (.tail _ (.tail _ (.tail _ (.tail _ (.tail _ (.tail _ (.tail _ (.tail _ (.tail _ (.tail _ (.tail _ (.tail _ (.tail _ (.tail _ (.head _)))))))))))))))) : (IsV (.slice (some ⟨w2.heap.size, 0, none⟩) N N)) v51 wx)
          subst e51
          have e54 : v54 = _ := (hd _ (.tail _ (.tail _ (.tail _ (.tail _ (.tail _ (.tail _ (.tail _ (.tail _ (.tail _ (.tail _ (.tail _ (.tail _ (.head _))))))))))))) : (IsV (.int .i64 ((i : Int) + (j : Int)))) v54 wx)
          subst e54
          obtain ⟨A66, n66, c66, rfl, h66, k66⟩ := (hd _ (.head _) : (IsNr (z + x * y) K1) v66 wx)
          clear hd
          have hOx := HO.out.below hx.out
          obtain ⟨A9, m9, c9, hc9, _, _, hf9⟩ := hOx.cell HIJ.out
          have hO2 := hOx.store HIJ.out h66 k66
          rw [HSET.out] at hO2
          have hB2 := (HB.out.trans (hx.out.mono HB.out.size)).setCell (p := ⟨w2.heap.size, i + j, none⟩) (Nat.le_refl _) (.slice A66 n66 c66)
          have HO2 := hide hO2
          have HB2 := hide hB2
          clear hOx hO2 hB2 h66 k66 hx KZ HO HB
          go_wp2
          go_roundw
          case rel => exact ⟨j + 1, by omega, by go_num, HO2.out, HB2.out⟩
          case measure => simp [intOf]; omega
        · obtain rfl : n4 = j := by omega
          have hO := HO.out
          have hnx : cvL N p q i n4 = cvL N p q (i + 1) 0 := by
            have h8 := cvL_next (n := N) (a := p) (b := q) (i := i)
            rw [HQL.out] at h8
            exact h8
          rw [hnx] at hO
          have HO1 := hide hO
          clear hnx hO
          go_wp2
          go_roundw
          case rel => exact ⟨i + 1, by omega, by go_num, HO1.out, HB.out⟩
          case measure => simp [intOf] <;> omega
    · obtain rfl : n3 = i := by omega
      have hr := hO.rd
      have hend : cvL N p q n3 0 = mulL N p q := by
        have h8 := cvL_end (n := N) (a := p) (b := q)
        rw [HPL.out] at h8
        exact h8
      rw [hend] at hr
      have hcall := enumerator_any wr _ N N ((mulL N p q).map limbs) K1 hr.rdl hr.few (by omega) (by omega)
      rw [map_val_limbs, mulP_of (by rw [HPL.out, HQL.out]; exact HNN.out)] at hcall
      have HC := hide hcall
      clear hr hend hcall
      go_wp2_with fail
      refine HC.out.mono ?_
      rintro e w9 ⟨A9, n9, c9, rfl, r9, hb9⟩
      have HR := hide (And.intro r9 (below_step (below_step hb9 hB) HB0.out))
      clear r9 hb9
      go_wp2
      go_ret
      exact ⟨_, _, _, rfl, HR.out.1, HR.out.2⟩

set_option maxHeartbeats 8000000 in
set_option maxRecDepth 10000 in
theorem rpmul_any (w : World) (A : Option Addr) (n c : Nat) (ll : List (List Nat)) (A2 : Option Addr) (n2 c2 : Nat) (kk : List (List Nat)) (K L : Nat) (h : RdL w A n c ll) (hKa : ∀ k, (ll.getD k []).length ≤ K) (h' : RdL w A2 n2 c2 kk) (hKb : ∀ k, (kk.getD k []).length ≤ L)
    (hK0 : K ≤ 10000) (hL0 : L ≤ 10000) (hn : n ≤ 10000) (hn2 : n2 ≤ 10000) :
    Calls Try.prog 24 #[.slice A n c, .slice A2 n2 c2] w (RetP (mulP (ll.map val) (kk.map val)) (K + L + 1) w) := by
  obtain ⟨i0, hy0, hy1, hy2, hy3⟩ := info_parts Try.infoNatP
  obtain ⟨p, hp⟩ : ∃ p, p = trimN (ll.map val) := ⟨_, rfl⟩
  obtain ⟨q, hq⟩ : ∃ q, q = trimN (kk.map val) := ⟨_, rfl⟩
  have hpn : p.length ≤ n := by
    have h8 := trimN_len_le (ll.map val)
    rw [List.length_map, ← hp] at h8
    have := h.len
    omega
  have hqn : q.length ≤ n2 := by
    have h8 := trimN_len_le (kk.map val)
    rw [List.length_map, ← hq] at h8
    have := h'.len
    omega
  rw [show mulP (ll.map val) (kk.map val) = mulP p q by rw [hp, hq, mulP_trim]]
  obtain ⟨K1, hK9⟩ : ∃ K1, K1 = K + L + 1 := ⟨_, rfl⟩
  rw [← hK9]
  have hK1 : K1 ≤ 20001 := by omega
  have HK9 := hide hK9
  have HPD := hide hp
  have HQD := hide hq
  have HPN := hide hpn
  have HQN := hide hqn
  clear hp hq hK9 hpn hqn
  have h1 := h
  have h2 := h'
  clear h h'
  go_enter Try.func24, Try.ntmps24
  go_upto_region 1 with (fail)
  go_wp2_with fail
  refine (poly_any _ A n c ll K h1 hKa (by omega) (by omega)).mono ?_
  rintro e w1 ⟨A3, n3, c3, rfl, r1, hb1⟩
  rw [← HPD.out] at r1
  go_wp2_with fail
  refine (poly_any _ A2 n2 c2 kk L (h2.below hb1) hKb (by omega) (by omega)).mono ?_
  rintro e w2 ⟨A4, n4, c4, rfl, r2, hb2⟩
  rw [← HQD.out] at r2
  have p1 := r1.below hb2
  have hB0 := below_step hb2 hb1
  have hpl : p.length = n3 := by have := p1.len; omega
  have hql : q.length = n4 := by have := r2.len; omega
  have hn3 : n3 ≤ 10000 := by have := HPN.out; omega
  have hn4 : n4 ≤ 10000 := by have := HQN.out; omega
  have HB0 := hide hB0
  have HPA := hide (fun k => p1.small k)
  have HQA := hide (fun k => r2.small k)
  clear r1 hb1 hb2 h1 h2 hB0 HPD HQD HPN HQN hKa hKb

  have HPL := hide hpl
  have HQL := hide hql
  obtain ⟨N, hN⟩ : ∃ N, N = n3 + n4 := ⟨_, rfl⟩
  have HNI : Hid (((n3 : Int) + (n4 : Int)) = (N : Int)) := by unfold Hid; omega
  have hN1 : N ≤ 20000 := by omega
  have HNN := hide (show n3 + n4 ≤ N + 1 by omega)
  clear hpl hql hN
  go_wp2_with (at_make; rw [HNI.out]; refine wpList_make_row _ rfl _ _ _ 23 rfl i0 _ 1 24 Try.underlying29 hy0 hy1 hy2 hy3 _ _ _ _ N rfl rfl rfl rfl (by omega) (by unfold maxLen; omega) ?_; intro w3 hown1 hb1)
  rw [madeCells_one (show (Value.slice none 0 0).cells = #[Value.slice none 0 0] from rfl)] at hown1
  have hO := OwnV.made (base := w2.heap.size) K1 hown1
  clear hown1
  go_loopw [6, 7] (fun iv _ wr => ∃ i : Nat, i ≤ n3 ∧ iv = .int .i64 (i : Int) ∧ OwnV K1 wr w2.heap.size w2.heap.size N (cvL N p q i 0) ∧ Below w2.heap.size w2 wr) (fun iv _ _ => n3 - (intOf iv).toNat)
  case atStart => exact ⟨0, Nat.zero_le _, rfl, by rw [cvL_zero]; exact hO, hb1⟩
  case round =>
    clear hO hb1
    obtain ⟨i, hi, rfl, hO, hB⟩ := hrel
    by_cases hlt : i < n3
    · obtain ⟨bp, op, vX, he, hbp, hcX, AX, nX, cX, rfl, hRX, hKX⟩ := p1.at1 hlt
      subst he
      have hcellX := (hB.cell (p := ⟨bp, op + i, none⟩) hbp).trans hcX
      have HCX := hide hcX
      have HRX := hide hRX
      have hnX : nX ≤ 10000 := by omega
      have HO0 := hide (And.intro hO hB)

      clear hcX hRX hO hB
      obtain ⟨wo, rfl⟩ : ∃ wo : World, wo = wr := ⟨_, rfl⟩
      go_wp2_with fail
      clear hcellX
      go_loopw [7] (fun jv wr => ∃ j : Nat, j ≤ n4 ∧ jv = .int .i64 (j : Int) ∧ OwnV K1 wr w2.heap.size w2.heap.size N (cvL N p q i j) ∧ Below w2.heap.size w2 wr) (fun jv _ => n4 - (intOf jv).toNat)
      case atStart => exact ⟨0, Nat.zero_le _, rfl, HO0.out.1, HO0.out.2⟩
      case round =>
        clear HO0
        obtain ⟨j, hj, rfl, hO, hB⟩ := hrel
        have HO := hide hO
        have HB := hide hB
        clear hO hB
        by_cases hltj : j < n4
        · obtain ⟨bq, oq, vY, he, hbq, hcY, AY, nY, cY, rfl, hRY, hKY⟩ := r2.at1 hltj
          subst he
          have hcellY := (HB.out.cell (p := ⟨bq, oq + j, none⟩) hbq).trans hcY
          have hnY : nY ≤ 10000 := by omega
          have HIJ : Hid (i + j < N) := by have := HNN.out; unfold Hid; omega
          obtain ⟨AZ, nZ, cZ, hcZ, hrZ, hkZ, _⟩ := HO.out.cell HIJ.out
          have hnZ : nZ ≤ 20001 := by omega
          rw [cvL_co HIJ.out] at hrZ
          have HSET := hide (cvL_set N p q i j)
          have HLS : Hid ((limbs (cv p q i j (i + j) + p.getD i 0 * q.getD j 0)).length ≤ K1) := by
            rw [Hid, ← cv_more, HK9.out]
            exact cv_limbs HPA.out HQA.out (by omega)
          have HLXY : Hid ((limbs (p.getD i 0 * q.getD j 0)).length ≤ K1) := by
            rw [Hid, HK9.out]
            exact Nat.le_trans (limbs_prod (HPA.out i) (HQA.out j)) (Nat.le_succ _)
          have HLX := hide (HPA.out i)
          have HLY := hide (HQA.out j)
          have HLZ : Hid ((limbs (cv p q i j (i + j))).length ≤ K1) := by rw [Hid, hrZ.len]; exact hkZ
          obtain ⟨W, hWd⟩ : ∃ W : World, W = wr := ⟨_, rfl⟩
          subst hWd
          have RX := hide (HRX.out.below HB.out)
          have RY := hide (hRY.below HB.out)
          have RZ := hide hrZ
          have KZ := hide (stays hcZ)
          have KX := hide (stays ((HB.out.cell (p := ⟨bp, op + i, none⟩) hbp).trans HCX.out))
          have KY := hide (stays hcellY)
          have q1 : (i : Int) + (j : Int) < (N : Int) := by have := HIJ.out; omega
          have q2 : ((i : Int) + (j : Int)).toNat = i + j := by omega
          have q3 : (0 : Int) ≤ (i : Int) + (j : Int) := by omega
          have q4 : (i : Int) < (n3 : Int) := by omega
          have q5 : (j : Int) < (n4 : Int) := by omega
          clear hrZ hcZ hRY hcY
          generalize cv p q i j (i + j) = z at *
          generalize p.getD i 0 = x at *
          generalize q.getD j 0 = y at *
          go_wp2_with fail
          refine wp_region_tab 20 53 [IsV (.slice (some ⟨w2.heap.size, 0, none⟩) N N), IsV (.int .i64 (i : Int)), IsV (.int .i64 (j : Int)), IsV (.int .i64 ((i : Int) + (j : Int))), IsV (.slice (some ⟨w2.heap.size, 0, none⟩) N N), IsV (.int .i64 (i : Int)), IsV (.int .i64 (j : Int)), IsV (.int .i64 ((i : Int) + (j : Int))), IsV (.pointer (some ⟨w2.heap.size, i + j, none⟩)), IsV (.slice AZ nZ cZ), IsV (.slice (some ⟨bp, op, none⟩) n3 c3), IsV (.int .i64 (i : Int)), IsV (.pointer (some ⟨bp, op + i, none⟩)), IsV (.slice AX nX cX), IsV (.slice (some ⟨bq, oq, none⟩) n4 c4), IsV (.int .i64 (j : Int)), IsV (.pointer (some ⟨bq, oq + j, none⟩)), IsV (.slice AY nY cY), IsNr (x * y) K1, IsNr (z + x * y) K1] (From W) (by kernel_rfl) (by kernel_rfl) (by kernel_rfl) rfl From.lastsP (From.drew (From.refl W)) ?_
          simp only [List.take_succ_cons, List.drop_succ_cons, List.take_zero, List.drop_zero]
          refine Tab.cons IsV.lasting (fun wx hx hd => ?_) (fun v30 => ?_)
          · skip
            clear hd
            intro KK hK
            go_simp
            exact hK.out _ _ rfl (Below.refl _ _)
          simp only [Act.put, List.setIfInBounds_toArray, List.set_cons_zero, List.set_cons_succ]
          refine Tab.cons IsV.lasting (fun wx hx hd => ?_) (fun v31 => ?_)
          · skip
            clear hd
            intro KK hK
            go_simp
            exact hK.out _ _ rfl (Below.refl _ _)
          simp only [Act.put, List.setIfInBounds_toArray, List.set_cons_zero, List.set_cons_succ]
          refine Tab.cons IsV.lasting (fun wx hx hd => ?_) (fun v32 => ?_)
          · skip
            clear hd
            intro KK hK
            go_simp
            exact hK.out _ _ rfl (Below.refl _ _)
          simp only [Act.put, List.setIfInBounds_toArray, List.set_cons_zero, List.set_cons_succ]
          refine Tab.cons IsV.lasting (fun wx hx hd => ?_) (fun v33 => ?_)
          · skip
            have e31 : v31 = _ := (hd _ (.tail _ (.head _)) (by kernel_rfl) : (IsV (.int .i64 (i : Int))) v31 wx)
            subst e31
            have e32 : v32 = _ := (hd _ (.head _) (by kernel_rfl) : (IsV (.int .i64 (j : Int))) v32 wx)
            subst e32
            clear hd
            intro KK hK
            go_simp
            rw [show IntKind.i64.wrap ((i : Int) + (j : Int)) = ((i : Int) + (j : Int)) from IntWalk.i64_in _ (by omega)]
            exact hK.out _ _ rfl (Below.refl _ _)
          simp only [Act.put, List.setIfInBounds_toArray, List.set_cons_zero, List.set_cons_succ]
          refine Tab.cons IsV.lasting (fun wx hx hd => ?_) (fun v34 => ?_)
          · skip
            clear hd
            intro KK hK
            go_simp
            exact hK.out _ _ rfl (Below.refl _ _)
          simp only [Act.put, List.setIfInBounds_toArray, List.set_cons_zero, List.set_cons_succ]
          refine Tab.cons IsV.lasting (fun wx hx hd => ?_) (fun v35 => ?_)
          · skip
            clear hd
            intro KK hK
            go_simp
            exact hK.out _ _ rfl (Below.refl _ _)
          simp only [Act.put, List.setIfInBounds_toArray, List.set_cons_zero, List.set_cons_succ]
          refine Tab.cons IsV.lasting (fun wx hx hd => ?_) (fun v36 => ?_)
          · skip
            clear hd
            intro KK hK
            go_simp
            exact hK.out _ _ rfl (Below.refl _ _)
          simp only [Act.put, List.setIfInBounds_toArray, List.set_cons_zero, List.set_cons_succ]
          refine Tab.cons IsV.lasting (fun wx hx hd => ?_) (fun v37 => ?_)
          · skip
            have e35 : v35 = _ := (hd _ (.tail _ (.head _)) (by kernel_rfl) : (IsV (.int .i64 (i : Int))) v35 wx)
            subst e35
            have e36 : v36 = _ := (hd _ (.head _) (by kernel_rfl) : (IsV (.int .i64 (j : Int))) v36 wx)
            subst e36
            clear hd
            intro KK hK
            go_simp
            rw [show IntKind.i64.wrap ((i : Int) + (j : Int)) = ((i : Int) + (j : Int)) from IntWalk.i64_in _ (by omega)]
            exact hK.out _ _ rfl (Below.refl _ _)
          simp only [Act.put, List.setIfInBounds_toArray, List.set_cons_zero, List.set_cons_succ]
          refine Tab.cons IsV.lasting (fun wx hx hd => ?_) (fun v38 => ?_)
          · skip
            have e34 : v34 = _ := (hd _ (.tail _ (.tail _ (.tail _ (.head _)))) (by kernel_rfl) : (IsV (.slice (some ⟨w2.heap.size, 0, none⟩) N N)) v34 wx)
            subst e34
            have e37 : v37 = _ := (hd _ (.head _) (by kernel_rfl) : (IsV (.int .i64 ((i : Int) + (j : Int)))) v37 wx)
            subst e37
            clear hd
            intro KK hK
            go_simp
            exact hK.out _ _ rfl (Below.refl _ _)
          simp only [Act.put, List.setIfInBounds_toArray, List.set_cons_zero, List.set_cons_succ]
          refine Tab.cons IsV.lasting (fun wx hx hd => ?_) (fun v39 => ?_)
          · skip
            have e38 : v38 = _ := (hd _ (.head _) (by kernel_rfl) : (IsV (.pointer (some ⟨w2.heap.size, i + j, none⟩))) v38 wx)
            subst e38
            clear hd
            intro KK hK
            have hcell0 := KZ.out _ hx
            go_simp
            exact hK.out _ _ rfl (Below.refl _ _)
          simp only [Act.put, List.setIfInBounds_toArray, List.set_cons_zero, List.set_cons_succ]
          refine Tab.cons IsV.lasting (fun wx hx hd => ?_) (fun v40 => ?_)
          · skip
            clear hd
            intro KK hK
            go_simp
            exact hK.out _ _ rfl (Below.refl _ _)
          simp only [Act.put, List.setIfInBounds_toArray, List.set_cons_zero, List.set_cons_succ]
          refine Tab.cons IsV.lasting (fun wx hx hd => ?_) (fun v41 => ?_)
          · skip
            clear hd
            intro KK hK
            go_simp
            exact hK.out _ _ rfl (Below.refl _ _)
          simp only [Act.put, List.setIfInBounds_toArray, List.set_cons_zero, List.set_cons_succ]
          refine Tab.cons IsV.lasting (fun wx hx hd => ?_) (fun v42 => ?_)
          · skip
            have e40 : v40 = _ := (hd _ (.tail _ (.head _)) (by kernel_rfl) : (IsV (.slice (some ⟨bp, op, none⟩) n3 c3)) v40 wx)
            subst e40
            have e41 : v41 = _ := (hd _ (.head _) (by kernel_rfl) : (IsV (.int .i64 (i : Int))) v41 wx)
            subst e41
            clear hd
            intro KK hK
            go_simp
            exact hK.out _ _ rfl (Below.refl _ _)
          simp only [Act.put, List.setIfInBounds_toArray, List.set_cons_zero, List.set_cons_succ]
          refine Tab.cons IsV.lasting (fun wx hx hd => ?_) (fun v43 => ?_)
          · skip
            have e42 : v42 = _ := (hd _ (.head _) (by kernel_rfl) : (IsV (.pointer (some ⟨bp, op + i, none⟩))) v42 wx)
            subst e42
            clear hd
            intro KK hK
            have hcell0 := KX.out _ hx
            go_simp
            exact hK.out _ _ rfl (Below.refl _ _)
          simp only [Act.put, List.setIfInBounds_toArray, List.set_cons_zero, List.set_cons_succ]
          refine Tab.cons IsV.lasting (fun wx hx hd => ?_) (fun v44 => ?_)
          · skip
            clear hd
            intro KK hK
            go_simp
            exact hK.out _ _ rfl (Below.refl _ _)
          simp only [Act.put, List.setIfInBounds_toArray, List.set_cons_zero, List.set_cons_succ]
          refine Tab.cons IsV.lasting (fun wx hx hd => ?_) (fun v45 => ?_)
          · skip
            clear hd
            intro KK hK
            go_simp
            exact hK.out _ _ rfl (Below.refl _ _)
          simp only [Act.put, List.setIfInBounds_toArray, List.set_cons_zero, List.set_cons_succ]
          refine Tab.cons IsV.lasting (fun wx hx hd => ?_) (fun v46 => ?_)
          · skip
            have e44 : v44 = _ := (hd _ (.tail _ (.head _)) (by kernel_rfl) : (IsV (.slice (some ⟨bq, oq, none⟩) n4 c4)) v44 wx)
            subst e44
            have e45 : v45 = _ := (hd _ (.head _) (by kernel_rfl) : (IsV (.int .i64 (j : Int))) v45 wx)
            subst e45
            clear hd
            intro KK hK
            go_simp
            exact hK.out _ _ rfl (Below.refl _ _)
          simp only [Act.put, List.setIfInBounds_toArray, List.set_cons_zero, List.set_cons_succ]
          refine Tab.cons IsV.lasting (fun wx hx hd => ?_) (fun v47 => ?_)
          · skip
            have e46 : v46 = _ := (hd _ (.head _) (by kernel_rfl) : (IsV (.pointer (some ⟨bq, oq + j, none⟩))) v46 wx)
            subst e46
            clear hd
            intro KK hK
            have hcell0 := KY.out _ hx
            go_simp
            exact hK.out _ _ rfl (Below.refl _ _)
          simp only [Act.put, List.setIfInBounds_toArray, List.set_cons_zero, List.set_cons_succ]
          refine Tab.cons IsNr.lasting (fun wx hx hd => ?_) (fun v48 => ?_)
          · skip
            have e43 : v43 = _ := (hd _ (.tail _ (.tail _ (.tail _ (.tail _ (.head _))))) (by kernel_rfl) : (IsV (.slice AX nX cX)) v43 wx)
            subst e43
            have e47 : v47 = _ := (hd _ (.head _) (by kernel_rfl) : (IsV (.slice AY nY cY)) v47 wx)
            subst e47
            clear hd
            intro KK hK
            go_simp
            refine (rmul2 (RX.out.below hx.out) (RY.out.below hx.out) (by omega) (by omega)).mono ?_
            rintro e w' ⟨A', n', c', rfl, h', hb', hn'⟩
            rw [val_limbs, val_limbs] at h'
            exact hK.out _ _ ⟨A', n', c', rfl, h', by rw [← h'.len]; exact HLXY.out⟩ hb'
          simp only [Act.put, List.setIfInBounds_toArray, List.set_cons_zero, List.set_cons_succ]
          refine Tab.cons IsNr.lasting (fun wx hx hd => ?_) (fun v49 => ?_)
          · skip
            have e39 : v39 = _ := (hd _ (.tail _ (.tail _ (.tail _ (.tail _ (.tail _ (.tail _ (.tail _ (.tail _ (.tail _ (.head _)))))))))) (by kernel_rfl) : (IsV (.slice AZ nZ cZ)) v39 wx)
            subst e39
            obtain ⟨A48, n48, c48, rfl, h48, k48⟩ := (hd _ (.head _) (by kernel_rfl) : (IsNr (x * y) K1) v48 wx)
            clear hd
            intro KK hK
            go_simp
            refine (radd2 (RZ.out.below hx.out) h48 (by omega) (by omega)).mono ?_
            rintro e w' ⟨A', n', c', rfl, h', hb', hn'⟩
            rw [val_limbs, val_limbs] at h'
            exact hK.out _ _ ⟨A', n', c', rfl, h', by rw [← h'.len]; exact HLS.out⟩ hb'
          simp only [Act.put, List.setIfInBounds_toArray, List.set_cons_zero, List.set_cons_succ]
          refine Tab.nil fun wx hx hd => ?_
          have e30 : v30 = _ := (hd _ (.tail _ (.tail _ (.tail _ (.tail _ (.tail _ (.tail _ (.tail _ (.tail _ (.tail _ (.tail _ (.tail _ (.tail _ (.tail _ (.tail _ (.tail _ (.tail _ (.tail _ (.tail _ (.tail _ (.head _)))))))))))))))))))) : (IsV (.slice (some ⟨w2.heap.size, 0, none⟩) N N)) v30 wx)
          subst e30
          have e33 : v33 = _ := (hd _ (.tail _ (.tail _ (.tail _ (.tail _ (.tail _ (.tail _ (.tail _ (.tail _ (.tail _ (.tail _ (.tail _ (.tail _ (.tail _ (.tail _ (.tail _ (.tail _ (.head _))))))))))))))))) : (IsV (.int .i64 ((i : Int) + (j : Int)))) v33 wx)
          subst e33
          obtain ⟨A49, n49, c49, rfl, h49, k49⟩ := (hd _ (.head _) : (IsNr (z + x * y) K1) v49 wx)
          clear hd
          have hOx := HO.out.below hx.out
          obtain ⟨A9, m9, c9, hc9, _, _, hf9⟩ := hOx.cell HIJ.out
          have hO2 := hOx.store HIJ.out h49 k49
          rw [HSET.out] at hO2
          have hB2 := (HB.out.trans (hx.out.mono HB.out.size)).setCell (p := ⟨w2.heap.size, i + j, none⟩) (Nat.le_refl _) (.slice A49 n49 c49)
          have HO2 := hide hO2
          have HB2 := hide hB2
          clear hOx hO2 hB2 h49 k49 hx KZ HO HB
          go_wp2
          go_roundw
          case rel => exact ⟨j + 1, by omega, by go_num, HO2.out, HB2.out⟩
          case measure => simp [intOf]; omega
        · obtain rfl : n4 = j := by omega
          have hO := HO.out
          have hnx : cvL N p q i n4 = cvL N p q (i + 1) 0 := by
            have h8 := cvL_next (n := N) (a := p) (b := q) (i := i)
            rw [HQL.out] at h8
            exact h8
          rw [hnx] at hO
          have HO1 := hide hO
          clear hnx hO
          go_wp2
          go_roundw
          case rel => exact ⟨i + 1, by omega, by go_num, HO1.out, HB.out⟩
          case measure => simp [intOf] <;> omega
    · obtain rfl : n3 = i := by omega
      have hr := hO.rd
      have hend : cvL N p q n3 0 = mulL N p q := by
        have h8 := cvL_end (n := N) (a := p) (b := q)
        rw [HPL.out] at h8
        exact h8
      rw [hend] at hr
      have hcall := poly_any wr _ N N ((mulL N p q).map limbs) K1 hr.rdl hr.few (by omega) (by omega)
      rw [map_val_limbs, mulP_of (by rw [HPL.out, HQL.out]; exact HNN.out)] at hcall
      have HC := hide hcall
      clear hr hend hcall
      go_wp2_with fail
      refine HC.out.mono ?_
      rintro e w9 ⟨A9, n9, c9, rfl, r9, hb9⟩
      have HR := hide (And.intro r9 (below_step (below_step hb9 hB) HB0.out))
      clear r9 hb9
      go_wp2
      go_ret
      exact ⟨_, _, _, rfl, HR.out.1, HR.out.2⟩
end Go.Proofs.Ytonimfogmplgdaa
