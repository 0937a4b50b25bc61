/- Sums of polynomials: the walks of Enumerators.Add and PolyAdd. -/
import Derived.Test.YtonimfogmplgdaaPolyE
namespace Go.Proofs.Ytonimfogmplgdaa
open Go.RowKit
theorem RdL.limsAt {w : World} {A : Option Addr} {n c : Nat} {ll : List (List Nat)} (h : RdL w A n c ll) (k : Nat) : Lims (ll.getD k []) := by
  by_cases hk : k < n
  · obtain ⟨_, _, _, _, _, _, _, _, hr⟩ := h.at hk
    exact hr.lims
  · rw [List.getD_eq_getElem?_getD, List.getElem?_eq_none (by have := h.len; omega)]
    exact Lims.nil
theorem limbs_small {l : List Nat} (h : Lims l) : (limbs (val l)).length ≤ l.length := length_limbs_val_le h
theorem limbs_sum {x y K : Nat} (hx : (limbs x).length ≤ K) (hy : (limbs y).length ≤ K) : (limbs (x + y)).length ≤ K + 1 := by
  have h1 := Nat.lt_of_lt_of_le (lt_pow_length x) (pow_le_pow_limb hx)
  have h2 := Nat.lt_of_lt_of_le (lt_pow_length y) (pow_le_pow_limb hy)
  refine length_limbs_le ?_
  rw [Nat.pow_succ]
  omega

set_option maxHeartbeats 8000000 in
set_option maxRecDepth 10000 in
theorem padd_any (w : World) (A : Option Addr) (n c : Nat) (ll : List (List Nat)) (A2 : Option Addr) (n2 c2 : Nat) (kk : List (List Nat)) (K : Nat) (h : RdL w A n c ll) (hKa : ∀ k, (ll.getD k []).length ≤ K) (h' : RdL w A2 n2 c2 kk) (hKb : ∀ k, (kk.getD k []).length ≤ K)
    (hK1 : K ≤ 10000) (hn : n ≤ 10000) (hn2 : n2 ≤ 10000) :
    Calls Try.prog 21 #[.agg #[], .slice A n c, .slice A2 n2 c2] w (RetP (addP (ll.map val) (kk.map val)) (K + 1) w) := by
  obtain ⟨i0, hy0, hy1, hy2, hy3⟩ := info_parts Try.infoNatP
  obtain ⟨xs, hxs⟩ : ∃ xs, xs = ll.map val := ⟨_, rfl⟩
  obtain ⟨ys, hys⟩ : ∃ ys, ys = kk.map val := ⟨_, rfl⟩
  have hxl : xs.length = n := by rw [hxs, List.length_map]; exact h.len
  have hyl : ys.length = n2 := by rw [hys, List.length_map]; exact h'.len
  have hca : ∀ k, xs.getD k 0 = val (ll.getD k []) := fun k => by rw [hxs]; exact map_val_co ll k
  have hcb : ∀ k, ys.getD k 0 = val (kk.getD k []) := fun k => by rw [hys]; exact map_val_co kk k
  rw [← hxs, ← hys]
  obtain ⟨N, hN⟩ : ∃ N, N = max n n2 := ⟨_, rfl⟩
  have HMX : Hid (max (n : Int) (n2 : Int) = (N : Int)) := by unfold Hid; omega
  have hla : ∀ k, (limbs (xs.getD k 0)).length ≤ K := fun k => by rw [hca]; exact Nat.le_trans (limbs_small (h.limsAt k)) (hKa k)
  have hlb : ∀ k, (limbs (ys.getD k 0)).length ≤ K := fun k => by rw [hcb]; exact Nat.le_trans (limbs_small (h'.limsAt k)) (hKb k)
  obtain ⟨K1, hK9⟩ : ∃ K1, K1 = K + 1 := ⟨_, rfl⟩
  rw [← hK9]
  have HXL := hide hxl
  have HYL := hide hyl
  have HCA := hide hca
  have HCB := hide hcb
  have HKa : Hid (∀ k, (ll.getD k []).length ≤ K) := hKa
  have HKb : Hid (∀ k, (kk.getD k []).length ≤ K) := hKb
  have HLA := hide hla
  have HLB := hide hlb
  have HNM := hide hN
  have HK9 := hide hK9
  have hK2 : K ≤ K1 := by omega
  have hK3 : K1 ≤ 10001 := by omega
  clear hxs hys hxl hyl hca hcb hKa hKb hla hlb hN hK9
  obtain ⟨W0, hW0⟩ : ∃ W0, W0 = w.alloc (.cells #[] 37) := ⟨_, rfl⟩
  have hS : Below w.heap.size w W0 := by rw [hW0]; exact below_alloc w _
  have h1 := h.below hS
  have h2 := h'.below hS
  have HW := hide hW0
  clear hW0 h h'
  have h63 := h1.le63
  have k63 := h2.le63
  have hN1 : N ≤ 10000 := by have := HNM.out; omega
  go_enter Try.func21, Try.ntmps21
  go_upto_region 1 with (fail)
  rw [← HW.out]
  go_wp2_with (at_make; rw [HMX.out]; refine wpList_make_row _ rfl _ _ _ 23 rfl i0 _ 1 24 Try.underlying29 hy0 hy1 hy2 hy3 _ _ _ _ N rfl rfl rfl rfl (by omega) (by unfold maxLen; omega) ?_; intro w1 hown1 hb1)
  rw [madeCells_one (show (Value.slice none 0 0).cells = #[Value.slice none 0 0] from rfl)] at hown1
  have hO := OwnV.made (base := W0.heap.size) K1 hown1
  clear hown1
  go_loopw [8, 17] (fun _ iv wr => ∃ i : Nat, i ≤ N ∧ iv = .int .i64 (i : Int) ∧ OwnV K1 wr W0.heap.size W0.heap.size N (adL N xs ys i) ∧ Below W0.heap.size W0 wr) (fun _ iv _ => N - (intOf iv).toNat)
  case atStart => exact ⟨0, Nat.zero_le _, rfl, by rw [adL_zero]; exact hO, hb1⟩
  case round =>
    clear hO hb1
    obtain ⟨i, hi, rfl, hO, hB⟩ := hrel
    have HO := hide hO
    have HB := hide hB
    clear hO hB
    by_cases hlt : i < N
    · obtain ⟨W, hWd⟩ : ∃ W : World, W = wr := ⟨_, rfl⟩
      subst hWd
      have HZ0 : Hid ((adL N xs ys i).getD i 0 = 0) := by rw [Hid, adL_co, if_neg (by omega)]
      have HST := hide (adL_set N xs ys i)
      by_cases halt : i < n
      · obtain ⟨b, off, AX, nX, cX, he, hb, hcell0, hrd0⟩ := h1.at halt
        subst he
        have KX := hide (stays (W := W) ((HB.out.cell (p := ⟨b, off + i, none⟩) hb).trans hcell0))
        have RX := hide (hrd0.below HB.out)
        have HLX : Hid ((ll.getD i []).length ≤ K1) := Nat.le_trans (HKa.out i) hK2
        have HVX : Hid (val (ll.getD i []) = xs.getD i 0) := (HCA.out i).symm
        obtain ⟨AZ, nZ, cZ, hcZ, hrZ, hkZ, _⟩ := HO.out.cell hlt
        have hz9 : (adL N xs ys i).getD i 0 = 0 := HZ0.out
        rw [hz9] at hrZ
        have HLZ : Hid ((limbs (0)).length ≤ K1) := by rw [Hid, hrZ.len]; exact hkZ
        have HLS := hide (show (limbs (0 + xs.getD i 0)).length ≤ K1 by rw [Nat.zero_add]; exact Nat.le_trans (HLA.out i) hK2)
        have KZ := hide (stays hcZ)
        have RZ := hide hrZ
        have hnX : nX ≤ K1 := by rw [← hrd0.len]; exact HLX.out
        have q1 : (i : Int) < (N : Int) := by omega
        have q2 : (i : Int) < (n : Int) := by omega
        clear hcell0 hrd0 hcZ hrZ hz9
        go_wp2_with fail
        refine wp_region_tab 12 57 [IsV (.slice (some ⟨W0.heap.size, 0, none⟩) N N), IsV (.int .i64 (i : Int)), IsV (.slice (some ⟨W0.heap.size, 0, none⟩) N N), IsV (.int .i64 (i : Int)), IsV (.pointer (some ⟨W0.heap.size, i, none⟩)), IsV (.slice AZ nZ cZ), IsV (.slice (some ⟨b, off, none⟩) n c), IsV (.int .i64 (i : Int)), IsV (.pointer (some ⟨b, off + i, none⟩)), IsV (.slice AX nX cX), IsNp (limbs (0)) (ll.getD i []), IsNr (0 + xs.getD i 0) K1] (From W) (by kernel_rfl) (by kernel_rfl) (by kernel_rfl) rfl From.lastsP (From.drew (From.refl W)) ?_
        simp only [List.take_succ_cons, List.drop_succ_cons, List.take_zero, List.drop_zero]
        refine Tab.cons IsV.lasting (fun wx hx hd => ?_) (fun v24 => ?_)
        · skip
          clear hd
          intro KK hK
          go_simp
          exact hK.out _ _ rfl (Below.refl _ _)
        simp only [Act.put, List.setIfInBounds_toArray, List.set_cons_zero, List.set_cons_succ]
        refine Tab.cons IsV.lasting (fun wx hx hd => ?_) (fun v25 => ?_)
        · skip
          clear hd
          intro KK hK
          go_simp
          exact hK.out _ _ rfl (Below.refl _ _)
        simp only [Act.put, List.setIfInBounds_toArray, List.set_cons_zero, List.set_cons_succ]
        refine Tab.cons IsV.lasting (fun wx hx hd => ?_) (fun v26 => ?_)
        · skip
          clear hd
          intro KK hK
          go_simp
          exact hK.out _ _ rfl (Below.refl _ _)
        simp only [Act.put, List.setIfInBounds_toArray, List.set_cons_zero, List.set_cons_succ]
        refine Tab.cons IsV.lasting (fun wx hx hd => ?_) (fun v27 => ?_)
        · skip
          clear hd
          intro KK hK
          go_simp
          exact hK.out _ _ rfl (Below.refl _ _)
        simp only [Act.put, List.setIfInBounds_toArray, List.set_cons_zero, List.set_cons_succ]
        refine Tab.cons IsV.lasting (fun wx hx hd => ?_) (fun v28 => ?_)
        · skip
          have e26 : v26 = _ := (hd _ (.tail _ (.head _)) (by kernel_rfl) : (IsV (.slice (some ⟨W0.heap.size, 0, none⟩) N N)) v26 wx)
          subst e26
          have e27 : v27 = _ := (hd _ (.head _) (by kernel_rfl) : (IsV (.int .i64 (i : Int))) v27 wx)
          subst e27
          clear hd
          intro KK hK
          go_simp
          exact hK.out _ _ rfl (Below.refl _ _)
        simp only [Act.put, List.setIfInBounds_toArray, List.set_cons_zero, List.set_cons_succ]
        refine Tab.cons IsV.lasting (fun wx hx hd => ?_) (fun v29 => ?_)
        · skip
          have e28 : v28 = _ := (hd _ (.head _) (by kernel_rfl) : (IsV (.pointer (some ⟨W0.heap.size, i, none⟩))) v28 wx)
          subst e28
          clear hd
          intro KK hK
          have hcell0 := KZ.out _ hx
          go_simp
          exact hK.out _ _ rfl (Below.refl _ _)
        simp only [Act.put, List.setIfInBounds_toArray, List.set_cons_zero, List.set_cons_succ]
        refine Tab.cons IsV.lasting (fun wx hx hd => ?_) (fun v30 => ?_)
        · skip
          clear hd
          intro KK hK
          go_simp
          exact hK.out _ _ rfl (Below.refl _ _)
        simp only [Act.put, List.setIfInBounds_toArray, List.set_cons_zero, List.set_cons_succ]
        refine Tab.cons IsV.lasting (fun wx hx hd => ?_) (fun v31 => ?_)
        · skip
          clear hd
          intro KK hK
          go_simp
          exact hK.out _ _ rfl (Below.refl _ _)
        simp only [Act.put, List.setIfInBounds_toArray, List.set_cons_zero, List.set_cons_succ]
        refine Tab.cons IsV.lasting (fun wx hx hd => ?_) (fun v32 => ?_)
        · skip
          have e30 : v30 = _ := (hd _ (.tail _ (.head _)) (by kernel_rfl) : (IsV (.slice (some ⟨b, off, none⟩) n c)) v30 wx)
          subst e30
          have e31 : v31 = _ := (hd _ (.head _) (by kernel_rfl) : (IsV (.int .i64 (i : Int))) v31 wx)
          subst e31
          clear hd
          intro KK hK
          go_simp
          exact hK.out _ _ rfl (Below.refl _ _)
        simp only [Act.put, List.setIfInBounds_toArray, List.set_cons_zero, List.set_cons_succ]
        refine Tab.cons IsV.lasting (fun wx hx hd => ?_) (fun v33 => ?_)
        · skip
          have e32 : v32 = _ := (hd _ (.head _) (by kernel_rfl) : (IsV (.pointer (some ⟨b, off + i, none⟩))) v32 wx)
          subst e32
          clear hd
          intro KK hK
          have hcell0 := KX.out _ hx
          go_simp
          exact hK.out _ _ rfl (Below.refl _ _)
        simp only [Act.put, List.setIfInBounds_toArray, List.set_cons_zero, List.set_cons_succ]
        refine Tab.cons IsNp.lasting (fun wx hx hd => ?_) (fun v34 => ?_)
        · skip
          have e29 : v29 = _ := (hd _ (.tail _ (.tail _ (.tail _ (.tail _ (.head _))))) (by kernel_rfl) : (IsV (.slice AZ nZ cZ)) v29 wx)
          subst e29
          have e33 : v33 = _ := (hd _ (.head _) (by kernel_rfl) : (IsV (.slice AX nX cX)) v33 wx)
          subst e33
          clear hd
          intro KK hK
          go_simp
          exact hK.out _ _ ⟨_, rfl, two_rdl rfl (RZ.out.below hx.out) (RX.out.below hx.out)⟩ (below_alloc _ _)
        simp only [Act.put, List.setIfInBounds_toArray, List.set_cons_zero, List.set_cons_succ]
        refine Tab.cons IsNr.lasting (fun wx hx hd => ?_) (fun v35 => ?_)
        · skip
          obtain ⟨g34, rfl, h34⟩ := (hd _ (.head _) (by kernel_rfl) : (IsNp (limbs (0)) (ll.getD i [])) v34 wx)
          clear hd
          intro KK hK
          go_simp
          refine (two_add (a := K1) h34 HLZ.out HLX.out (by omega)).mono ?_
          rintro e w' ⟨A', n', c', rfl, h', hb', hn'⟩
          rw [val_limbs, HVX.out] at h'
          exact hK.out _ _ ⟨A', n', c', rfl, h', by rw [← h'.len]; exact HLS.out⟩ hb'
        simp only [Act.put, List.setIfInBounds_toArray, List.set_cons_zero, List.set_cons_succ]
        refine Tab.nil fun wx hx hd => ?_
        have e24 : v24 = _ := (hd _ (.tail _ (.tail _ (.tail _ (.tail _ (.tail _ (.tail _ (.tail _ (.tail _ (.tail _ (.tail _ (.tail _ (.head _)))))))))))) : (IsV (.slice (some ⟨W0.heap.size, 0, none⟩) N N)) v24 wx)
        subst e24
        have e25 : v25 = _ := (hd _ (.tail _ (.tail _ (.tail _ (.tail _ (.tail _ (.tail _ (.tail _ (.tail _ (.tail _ (.tail _ (.head _))))))))))) : (IsV (.int .i64 (i : Int))) v25 wx)
        subst e25
        obtain ⟨A35, n35, c35, rfl, h35, k35⟩ := (hd _ (.head _) : (IsNr (0 + xs.getD i 0) K1) v35 wx)
        clear hd
        have hOx := HO.out.below hx.out
        obtain ⟨A9, m9, c9, hc9, _, _, hf9⟩ := hOx.cell hlt
        have hO2 := hOx.store hlt h35 k35
        have hB2 := (HB.out.trans (hx.out.mono HB.out.size)).setCell (p := ⟨W0.heap.size, i, none⟩) (Nat.le_refl _) (.slice A35 n35 c35)
        have HO2 := hide hO2
        have HB2 := hide hB2
        clear hOx hO2 hB2 q2 h35 k35 hx KZ KX HO HB
        skip
        by_cases hblt : i < n2
        · go_wp2_with fail
          obtain ⟨V, hV⟩ : ∃ V, V = wx.setCell ⟨W0.heap.size, i, none⟩ (.slice A35 n35 c35) := ⟨_, rfl⟩
          rw [← hV] at HO2 HB2
          rw [← hV]
          clear hV hc9 hf9
          clear RX HLX HVX HLS RZ HLZ hnX hkZ q1 hb
          obtain ⟨W, hWd⟩ : ∃ W : World, W = V := ⟨_, rfl⟩
          subst hWd
          have HO := HO2
          have HB := HB2
          clear HO2 HB2
          obtain ⟨b, off, AX, nX, cX, he, hb, hcell0, hrd0⟩ := h2.at hblt
          subst he
          have KX := hide (stays (W := W) ((HB.out.cell (p := ⟨b, off + i, none⟩) hb).trans hcell0))
          have RX := hide (hrd0.below HB.out)
          have HLX : Hid ((kk.getD i []).length ≤ K1) := Nat.le_trans (HKb.out i) hK2
          have HVX : Hid (val (kk.getD i []) = ys.getD i 0) := (HCB.out i).symm
          obtain ⟨AZ, nZ, cZ, hcZ, hrZ, hkZ, _⟩ := HO.out.cell hlt
          have hz9 : ((adL N xs ys i).set i (0 + xs.getD i 0)).getD i 0 = xs.getD i 0 := by rw [gset_self _ _ _ (by rw [adL_len]; exact hlt), Nat.zero_add]
          rw [hz9] at hrZ
          have HLZ : Hid ((limbs (xs.getD i 0)).length ≤ K1) := by rw [Hid, hrZ.len]; exact hkZ
          have HLS := hide (show (limbs (xs.getD i 0 + ys.getD i 0)).length ≤ K1 by rw [HK9.out]; exact limbs_sum (HLA.out i) (HLB.out i))
          have KZ := hide (stays hcZ)
          have RZ := hide hrZ
          have hnX : nX ≤ K1 := by rw [← hrd0.len]; exact HLX.out
          have q1 : (i : Int) < (N : Int) := by omega
          have q2 : (i : Int) < (n2 : Int) := by omega
          clear hcell0 hrd0 hcZ hrZ hz9
          go_wp2_with fail
          refine wp_region_tab 12 57 [IsV (.slice (some ⟨W0.heap.size, 0, none⟩) N N), IsV (.int .i64 (i : Int)), IsV (.slice (some ⟨W0.heap.size, 0, none⟩) N N), IsV (.int .i64 (i : Int)), IsV (.pointer (some ⟨W0.heap.size, i, none⟩)), IsV (.slice AZ nZ cZ), IsV (.slice (some ⟨b, off, none⟩) n2 c2), IsV (.int .i64 (i : Int)), IsV (.pointer (some ⟨b, off + i, none⟩)), IsV (.slice AX nX cX), IsNp (limbs (xs.getD i 0)) (kk.getD i []), IsNr ((xs.getD i 0) + ys.getD i 0) K1] (From W) (by kernel_rfl) (by kernel_rfl) (by kernel_rfl) rfl From.lastsP (From.drew (From.refl W)) ?_
          simp only [List.take_succ_cons, List.drop_succ_cons, List.take_zero, List.drop_zero]
          refine Tab.cons IsV.lasting (fun wx hx hd => ?_) (fun v41 => ?_)
          · skip
            clear hd
            intro KK hK
            go_simp
            exact hK.out _ _ rfl (Below.refl _ _)
          simp only [Act.put, List.setIfInBounds_toArray, List.set_cons_zero, List.set_cons_succ]
          refine Tab.cons IsV.lasting (fun wx hx hd => ?_) (fun v42 => ?_)
          · skip
            clear hd
            intro KK hK
            go_simp
            exact hK.out _ _ rfl (Below.refl _ _)
          simp only [Act.put, List.setIfInBounds_toArray, List.set_cons_zero, List.set_cons_succ]
          refine Tab.cons IsV.lasting (fun wx hx hd => ?_) (fun v43 => ?_)
          · skip
            clear hd
            intro KK hK
            go_simp
            exact hK.out _ _ rfl (Below.refl _ _)
          simp only [Act.put, List.setIfInBounds_toArray, List.set_cons_zero, List.set_cons_succ]
          refine Tab.cons IsV.lasting (fun wx hx hd => ?_) (fun v44 => ?_)
          · skip
            clear hd
            intro KK hK
            go_simp
            exact hK.out _ _ rfl (Below.refl _ _)
          simp only [Act.put, List.setIfInBounds_toArray, List.set_cons_zero, List.set_cons_succ]
          refine Tab.cons IsV.lasting (fun wx hx hd => ?_) (fun v45 => ?_)
          · skip
            have e43 : v43 = _ := (hd _ (.tail _ (.head _)) (by kernel_rfl) : (IsV (.slice (some ⟨W0.heap.size, 0, none⟩) N N)) v43 wx)
            subst e43
            have e44 : v44 = _ := (hd _ (.head _) (by kernel_rfl) : (IsV (.int .i64 (i : Int))) v44 wx)
            subst e44
            clear hd
            intro KK hK
            go_simp
            exact hK.out _ _ rfl (Below.refl _ _)
          simp only [Act.put, List.setIfInBounds_toArray, List.set_cons_zero, List.set_cons_succ]
          refine Tab.cons IsV.lasting (fun wx hx hd => ?_) (fun v46 => ?_)
          · skip
            have e45 : v45 = _ := (hd _ (.head _) (by kernel_rfl) : (IsV (.pointer (some ⟨W0.heap.size, i, none⟩))) v45 wx)
            subst e45
            clear hd
            intro KK hK
            have hcell0 := KZ.out _ hx
            go_simp
            exact hK.out _ _ rfl (Below.refl _ _)
          simp only [Act.put, List.setIfInBounds_toArray, List.set_cons_zero, List.set_cons_succ]
          refine Tab.cons IsV.lasting (fun wx hx hd => ?_) (fun v47 => ?_)
          · skip
            clear hd
            intro KK hK
            go_simp
            exact hK.out _ _ rfl (Below.refl _ _)
          simp only [Act.put, List.setIfInBounds_toArray, List.set_cons_zero, List.set_cons_succ]
          refine Tab.cons IsV.lasting (fun wx hx hd => ?_) (fun v48 => ?_)
          · skip
            clear hd
            intro KK hK
            go_simp
            exact hK.out _ _ rfl (Below.refl _ _)
          simp only [Act.put, List.setIfInBounds_toArray, List.set_cons_zero, List.set_cons_succ]
          refine Tab.cons IsV.lasting (fun wx hx hd => ?_) (fun v49 => ?_)
          · skip
            have e47 : v47 = _ := (hd _ (.tail _ (.head _)) (by kernel_rfl) : (IsV (.slice (some ⟨b, off, none⟩) n2 c2)) v47 wx)
            subst e47
            have e48 : v48 = _ := (hd _ (.head _) (by kernel_rfl) : (IsV (.int .i64 (i : Int))) v48 wx)
            subst e48
            clear hd
            intro KK hK
            go_simp
            exact hK.out _ _ rfl (Below.refl _ _)
          simp only [Act.put, List.setIfInBounds_toArray, List.set_cons_zero, List.set_cons_succ]
          refine Tab.cons IsV.lasting (fun wx hx hd => ?_) (fun v50 => ?_)
          · skip
            have e49 : v49 = _ := (hd _ (.head _) (by kernel_rfl) : (IsV (.pointer (some ⟨b, off + i, none⟩))) v49 wx)
            subst e49
            clear hd
            intro KK hK
            have hcell0 := KX.out _ hx
            go_simp
            exact hK.out _ _ rfl (Below.refl _ _)
          simp only [Act.put, List.setIfInBounds_toArray, List.set_cons_zero, List.set_cons_succ]
          refine Tab.cons IsNp.lasting (fun wx hx hd => ?_) (fun v51 => ?_)
          · skip
            have e46 : v46 = _ := (hd _ (.tail _ (.tail _ (.tail _ (.tail _ (.head _))))) (by kernel_rfl) : (IsV (.slice AZ nZ cZ)) v46 wx)
            subst e46
            have e50 : v50 = _ := (hd _ (.head _) (by kernel_rfl) : (IsV (.slice AX nX cX)) v50 wx)
            subst e50
            clear hd
            intro KK hK
            go_simp
            exact hK.out _ _ ⟨_, rfl, two_rdl rfl (RZ.out.below hx.out) (RX.out.below hx.out)⟩ (below_alloc _ _)
          simp only [Act.put, List.setIfInBounds_toArray, List.set_cons_zero, List.set_cons_succ]
          refine Tab.cons IsNr.lasting (fun wx hx hd => ?_) (fun v52 => ?_)
          · skip
            obtain ⟨g51, rfl, h51⟩ := (hd _ (.head _) (by kernel_rfl) : (IsNp (limbs (xs.getD i 0)) (kk.getD i [])) v51 wx)
            clear hd
            intro KK hK
            go_simp
            refine (two_add (a := K1) h51 HLZ.out HLX.out (by omega)).mono ?_
            rintro e w' ⟨A', n', c', rfl, h', hb', hn'⟩
            rw [val_limbs, HVX.out] at h'
            exact hK.out _ _ ⟨A', n', c', rfl, h', by rw [← h'.len]; exact HLS.out⟩ hb'
          simp only [Act.put, List.setIfInBounds_toArray, List.set_cons_zero, List.set_cons_succ]
          refine Tab.nil fun wx hx hd => ?_
          have e41 : v41 = _ := (hd _ (.tail _ (.tail _ (.tail _ (.tail _ (.tail _ (.tail _ (.tail _ (.tail _ (.tail _ (.tail _ (.tail _ (.head _)))))))))))) : (IsV (.slice (some ⟨W0.heap.size, 0, none⟩) N N)) v41 wx)
          subst e41
          have e42 : v42 = _ := (hd _ (.tail _ (.tail _ (.tail _ (.tail _ (.tail _ (.tail _ (.tail _ (.tail _ (.tail _ (.tail _ (.head _))))))))))) : (IsV (.int .i64 (i : Int))) v42 wx)
          subst e42
          obtain ⟨A52, n52, c52, rfl, h52, k52⟩ := (hd _ (.head _) : (IsNr ((xs.getD i 0) + ys.getD i 0) K1) v52 wx)
          clear hd
          have hOx := HO.out.below hx.out
          obtain ⟨A9, m9, c9, hc9, _, _, hf9⟩ := hOx.cell hlt
          have hO2 := hOx.store hlt h52 k52
          have hB2 := (HB.out.trans (hx.out.mono HB.out.size)).setCell (p := ⟨W0.heap.size, i, none⟩) (Nat.le_refl _) (.slice A52 n52 c52)
          have HO2 := hide hO2
          have HB2 := hide hB2
          clear hOx hO2 hB2 q2 h52 k52 hx KZ KX HO HB
          skip
          have hfin := HO2.out
          rw [List.set_set, HST.out] at hfin
          have HFIN := hide hfin
          clear hfin HO2
          go_wp2
          go_roundw
          case rel => exact ⟨i + 1, by omega, by go_num, HFIN.out, HB2.out⟩
          case measure => simp [intOf]; omega
        · have hfin := HO2.out
          have hb0 : ys.getD i 0 = 0 := co_far (by have := HYL.out; omega)
          have hst := HST.out
          rw [hb0, Nat.add_zero] at hst
          rw [Nat.zero_add, hst] at hfin
          have HFIN := hide hfin
          clear hfin HO2 hst hb0
          go_wp2
          go_roundw
          case rel => exact ⟨i + 1, by omega, by go_num, HFIN.out, HB2.out⟩
          case measure => simp [intOf]; omega
      · have hblt : i < n2 := by have := HNM.out; omega
        obtain ⟨b, off, AX, nX, cX, he, hb, hcell0, hrd0⟩ := h2.at hblt
        subst he
        have KX := hide (stays (W := W) ((HB.out.cell (p := ⟨b, off + i, none⟩) hb).trans hcell0))
        have RX := hide (hrd0.below HB.out)
        have HLX : Hid ((kk.getD i []).length ≤ K1) := Nat.le_trans (HKb.out i) hK2
        have HVX : Hid (val (kk.getD i []) = ys.getD i 0) := (HCB.out i).symm
        obtain ⟨AZ, nZ, cZ, hcZ, hrZ, hkZ, _⟩ := HO.out.cell hlt
        have hz9 : (adL N xs ys i).getD i 0 = 0 := HZ0.out
        rw [hz9] at hrZ
        have HLZ : Hid ((limbs (0)).length ≤ K1) := by rw [Hid, hrZ.len]; exact hkZ
        have HLS := hide (show (limbs (0 + ys.getD i 0)).length ≤ K1 by rw [Nat.zero_add]; exact Nat.le_trans (HLB.out i) hK2)
        have KZ := hide (stays hcZ)
        have RZ := hide hrZ
        have hnX : nX ≤ K1 := by rw [← hrd0.len]; exact HLX.out
        have q1 : (i : Int) < (N : Int) := by omega
        have q2 : (i : Int) < (n2 : Int) := by omega
        clear hcell0 hrd0 hcZ hrZ hz9
        go_wp2_with fail
        refine wp_region_tab 12 57 [IsV (.slice (some ⟨W0.heap.size, 0, none⟩) N N), IsV (.int .i64 (i : Int)), IsV (.slice (some ⟨W0.heap.size, 0, none⟩) N N), IsV (.int .i64 (i : Int)), IsV (.pointer (some ⟨W0.heap.size, i, none⟩)), IsV (.slice AZ nZ cZ), IsV (.slice (some ⟨b, off, none⟩) n2 c2), IsV (.int .i64 (i : Int)), IsV (.pointer (some ⟨b, off + i, none⟩)), IsV (.slice AX nX cX), IsNp (limbs (0)) (kk.getD i []), IsNr (0 + ys.getD i 0) K1] (From W) (by kernel_rfl) (by kernel_rfl) (by kernel_rfl) rfl From.lastsP (From.drew (From.refl W)) ?_
        simp only [List.take_succ_cons, List.drop_succ_cons, List.take_zero, List.drop_zero]
        refine Tab.cons IsV.lasting (fun wx hx hd => ?_) (fun v41 => ?_)
        · skip
          clear hd
          intro KK hK
          go_simp
          exact hK.out _ _ rfl (Below.refl _ _)
        simp only [Act.put, List.setIfInBounds_toArray, List.set_cons_zero, List.set_cons_succ]
        refine Tab.cons IsV.lasting (fun wx hx hd => ?_) (fun v42 => ?_)
        · skip
          clear hd
          intro KK hK
          go_simp
          exact hK.out _ _ rfl (Below.refl _ _)
        simp only [Act.put, List.setIfInBounds_toArray, List.set_cons_zero, List.set_cons_succ]
        refine Tab.cons IsV.lasting (fun wx hx hd => ?_) (fun v43 => ?_)
        · skip
          clear hd
          intro KK hK
          go_simp
          exact hK.out _ _ rfl (Below.refl _ _)
        simp only [Act.put, List.setIfInBounds_toArray, List.set_cons_zero, List.set_cons_succ]
        refine Tab.cons IsV.lasting (fun wx hx hd => ?_) (fun v44 => ?_)
        · skip
          clear hd
          intro KK hK
          go_simp
          exact hK.out _ _ rfl (Below.refl _ _)
        simp only [Act.put, List.setIfInBounds_toArray, List.set_cons_zero, List.set_cons_succ]
        refine Tab.cons IsV.lasting (fun wx hx hd => ?_) (fun v45 => ?_)
        · skip
          have e43 : v43 = _ := (hd _ (.tail _ (.head _)) (by kernel_rfl) : (IsV (.slice (some ⟨W0.heap.size, 0, none⟩) N N)) v43 wx)
          subst e43
          have e44 : v44 = _ := (hd _ (.head _) (by kernel_rfl) : (IsV (.int .i64 (i : Int))) v44 wx)
          subst e44
          clear hd
          intro KK hK
          go_simp
          exact hK.out _ _ rfl (Below.refl _ _)
        simp only [Act.put, List.setIfInBounds_toArray, List.set_cons_zero, List.set_cons_succ]
        refine Tab.cons IsV.lasting (fun wx hx hd => ?_) (fun v46 => ?_)
        · skip
          have e45 : v45 = _ := (hd _ (.head _) (by kernel_rfl) : (IsV (.pointer (some ⟨W0.heap.size, i, none⟩))) v45 wx)
          subst e45
          clear hd
          intro KK hK
          have hcell0 := KZ.out _ hx
          go_simp
          exact hK.out _ _ rfl (Below.refl _ _)
        simp only [Act.put, List.setIfInBounds_toArray, List.set_cons_zero, List.set_cons_succ]
        refine Tab.cons IsV.lasting (fun wx hx hd => ?_) (fun v47 => ?_)
        · skip
          clear hd
          intro KK hK
          go_simp
          exact hK.out _ _ rfl (Below.refl _ _)
        simp only [Act.put, List.setIfInBounds_toArray, List.set_cons_zero, List.set_cons_succ]
        refine Tab.cons IsV.lasting (fun wx hx hd => ?_) (fun v48 => ?_)
        · skip
          clear hd
          intro KK hK
          go_simp
          exact hK.out _ _ rfl (Below.refl _ _)
        simp only [Act.put, List.setIfInBounds_toArray, List.set_cons_zero, List.set_cons_succ]
        refine Tab.cons IsV.lasting (fun wx hx hd => ?_) (fun v49 => ?_)
        · skip
          have e47 : v47 = _ := (hd _ (.tail _ (.head _)) (by kernel_rfl) : (IsV (.slice (some ⟨b, off, none⟩) n2 c2)) v47 wx)
          subst e47
          have e48 : v48 = _ := (hd _ (.head _) (by kernel_rfl) : (IsV (.int .i64 (i : Int))) v48 wx)
          subst e48
          clear hd
          intro KK hK
          go_simp
          exact hK.out _ _ rfl (Below.refl _ _)
        simp only [Act.put, List.setIfInBounds_toArray, List.set_cons_zero, List.set_cons_succ]
        refine Tab.cons IsV.lasting (fun wx hx hd => ?_) (fun v50 => ?_)
        · skip
          have e49 : v49 = _ := (hd _ (.head _) (by kernel_rfl) : (IsV (.pointer (some ⟨b, off + i, none⟩))) v49 wx)
          subst e49
          clear hd
          intro KK hK
          have hcell0 := KX.out _ hx
          go_simp
          exact hK.out _ _ rfl (Below.refl _ _)
        simp only [Act.put, List.setIfInBounds_toArray, List.set_cons_zero, List.set_cons_succ]
        refine Tab.cons IsNp.lasting (fun wx hx hd => ?_) (fun v51 => ?_)
        · skip
          have e46 : v46 = _ := (hd _ (.tail _ (.tail _ (.tail _ (.tail _ (.head _))))) (by kernel_rfl) : (IsV (.slice AZ nZ cZ)) v46 wx)
          subst e46
          have e50 : v50 = _ := (hd _ (.head _) (by kernel_rfl) : (IsV (.slice AX nX cX)) v50 wx)
          subst e50
          clear hd
          intro KK hK
          go_simp
          exact hK.out _ _ ⟨_, rfl, two_rdl rfl (RZ.out.below hx.out) (RX.out.below hx.out)⟩ (below_alloc _ _)
        simp only [Act.put, List.setIfInBounds_toArray, List.set_cons_zero, List.set_cons_succ]
        refine Tab.cons IsNr.lasting (fun wx hx hd => ?_) (fun v52 => ?_)
        · skip
          obtain ⟨g51, rfl, h51⟩ := (hd _ (.head _) (by kernel_rfl) : (IsNp (limbs (0)) (kk.getD i [])) v51 wx)
          clear hd
          intro KK hK
          go_simp
          refine (two_add (a := K1) h51 HLZ.out HLX.out (by omega)).mono ?_
          rintro e w' ⟨A', n', c', rfl, h', hb', hn'⟩
          rw [val_limbs, HVX.out] at h'
          exact hK.out _ _ ⟨A', n', c', rfl, h', by rw [← h'.len]; exact HLS.out⟩ hb'
        simp only [Act.put, List.setIfInBounds_toArray, List.set_cons_zero, List.set_cons_succ]
        refine Tab.nil fun wx hx hd => ?_
        have e41 : v41 = _ := (hd _ (.tail _ (.tail _ (.tail _ (.tail _ (.tail _ (.tail _ (.tail _ (.tail _ (.tail _ (.tail _ (.tail _ (.head _)))))))))))) : (IsV (.slice (some ⟨W0.heap.size, 0, none⟩) N N)) v41 wx)
        subst e41
        have e42 : v42 = _ := (hd _ (.tail _ (.tail _ (.tail _ (.tail _ (.tail _ (.tail _ (.tail _ (.tail _ (.tail _ (.tail _ (.head _))))))))))) : (IsV (.int .i64 (i : Int))) v42 wx)
        subst e42
        obtain ⟨A52, n52, c52, rfl, h52, k52⟩ := (hd _ (.head _) : (IsNr (0 + ys.getD i 0) K1) v52 wx)
        clear hd
        have hOx := HO.out.below hx.out
        obtain ⟨A9, m9, c9, hc9, _, _, hf9⟩ := hOx.cell hlt
        have hO2 := hOx.store hlt h52 k52
        have hB2 := (HB.out.trans (hx.out.mono HB.out.size)).setCell (p := ⟨W0.heap.size, i, none⟩) (Nat.le_refl _) (.slice A52 n52 c52)
        have HO2 := hide hO2
        have HB2 := hide hB2
        clear hOx hO2 hB2 q2 h52 k52 hx KZ KX HO HB
        skip
        have hfin := HO2.out
        have ha0 : xs.getD i 0 = 0 := co_far (by have := HXL.out; omega)
        have hst := HST.out
        rw [ha0] at hst
        rw [hst] at hfin
        have HFIN := hide hfin
        clear hfin HO2 hst ha0
        go_wp2
        go_roundw
        case rel => exact ⟨i + 1, by omega, by go_num, HFIN.out, HB2.out⟩
        case measure => simp [intOf]; omega
    · obtain rfl : N = i := by omega
      have hr := HO.out.rd
      have hend : adL N xs ys N = addL xs ys := by
        have := adL_end xs ys
        rw [HXL.out, HYL.out, ← HNM.out] at this
        exact this
      rw [hend] at hr
      have hcall := enumerator_any wr _ N N ((addL xs ys).map limbs) K1 hr.rdl hr.few (by omega) (by omega)
      rw [map_val_limbs] at hcall
      have HC := hide hcall
      clear hr hend hcall
      go_wp2_with fail
      refine HC.out.mono ?_
      rintro e w3 ⟨A3, n3, c3, rfl, r3, hb3⟩
      have HR := hide (And.intro r3 (below_step (below_step hb3 HB.out) hS))
      clear r3 hb3
      go_wp2
      go_ret
      exact ⟨_, _, _, rfl, HR.out.1, HR.out.2⟩

set_option maxHeartbeats 8000000 in
set_option maxRecDepth 10000 in
theorem rpadd_any (w : World) (A : Option Addr) (n c : Nat) (ll : List (List Nat)) (A2 : Option Addr) (n2 c2 : Nat) (kk : List (List Nat)) (K : Nat) (h : RdL w A n c ll) (hKa : ∀ k, (ll.getD k []).length ≤ K) (h' : RdL w A2 n2 c2 kk) (hKb : ∀ k, (kk.getD k []).length ≤ K)
    (hK1 : K ≤ 10000) (hn : n ≤ 10000) (hn2 : n2 ≤ 10000) :
    Calls Try.prog 22 #[.slice A n c, .slice A2 n2 c2] w (RetP (addP (ll.map val) (kk.map val)) (K + 1) w) := by
  obtain ⟨i0, hy0, hy1, hy2, hy3⟩ := info_parts Try.infoNatP
  obtain ⟨xs, hxs⟩ : ∃ xs, xs = ll.map val := ⟨_, rfl⟩
  obtain ⟨ys, hys⟩ : ∃ ys, ys = kk.map val := ⟨_, rfl⟩
  have hxl : xs.length = n := by rw [hxs, List.length_map]; exact h.len
  have hyl : ys.length = n2 := by rw [hys, List.length_map]; exact h'.len
  have hca : ∀ k, xs.getD k 0 = val (ll.getD k []) := fun k => by rw [hxs]; exact map_val_co ll k
  have hcb : ∀ k, ys.getD k 0 = val (kk.getD k []) := fun k => by rw [hys]; exact map_val_co kk k
  rw [← hxs, ← hys]
  obtain ⟨N, hN⟩ : ∃ N, N = max n n2 := ⟨_, rfl⟩
  have HMX : Hid (max (n : Int) (n2 : Int) = (N : Int)) := by unfold Hid; omega
  have hla : ∀ k, (limbs (xs.getD k 0)).length ≤ K := fun k => by rw [hca]; exact Nat.le_trans (limbs_small (h.limsAt k)) (hKa k)
  have hlb : ∀ k, (limbs (ys.getD k 0)).length ≤ K := fun k => by rw [hcb]; exact Nat.le_trans (limbs_small (h'.limsAt k)) (hKb k)
  obtain ⟨K1, hK9⟩ : ∃ K1, K1 = K + 1 := ⟨_, rfl⟩
  rw [← hK9]
  have HXL := hide hxl
  have HYL := hide hyl
  have HCA := hide hca
  have HCB := hide hcb
  have HKa : Hid (∀ k, (ll.getD k []).length ≤ K) := hKa
  have HKb : Hid (∀ k, (kk.getD k []).length ≤ K) := hKb
  have HLA := hide hla
  have HLB := hide hlb
  have HNM := hide hN
  have HK9 := hide hK9
  have hK2 : K ≤ K1 := by omega
  have hK3 : K1 ≤ 10001 := by omega
  clear hxs hys hxl hyl hca hcb hKa hKb hla hlb hN hK9
  obtain ⟨W0, hW0⟩ : ∃ W0 : World, W0 = w := ⟨_, rfl⟩
  subst hW0
  have h1 := h
  have h2 := h'
  clear h h'
  have h63 := h1.le63
  have k63 := h2.le63
  have hN1 : N ≤ 10000 := by have := HNM.out; omega
  go_enter Try.func22, Try.ntmps22
  go_upto_region 1 with (fail)
  go_wp2_with (at_make; rw [HMX.out]; refine wpList_make_row _ rfl _ _ _ 23 rfl i0 _ 1 24 Try.underlying29 hy0 hy1 hy2 hy3 _ _ _ _ N rfl rfl rfl rfl (by omega) (by unfold maxLen; omega) ?_; intro w1 hown1 hb1)
  rw [madeCells_one (show (Value.slice none 0 0).cells = #[Value.slice none 0 0] from rfl)] at hown1
  have hO := OwnV.made (base := W0.heap.size) K1 hown1
  clear hown1
  go_loopw [6] (fun iv wr => ∃ i : Nat, i ≤ N ∧ iv = .int .i64 (i : Int) ∧ OwnV K1 wr W0.heap.size W0.heap.size N (adL N xs ys i) ∧ Below W0.heap.size W0 wr) (fun iv _ => N - (intOf iv).toNat)
  case atStart => exact ⟨0, Nat.zero_le _, rfl, by rw [adL_zero]; exact hO, hb1⟩
  case round =>
    clear hO hb1
    obtain ⟨i, hi, rfl, hO, hB⟩ := hrel
    have HO := hide hO
    have HB := hide hB
    clear hO hB
    by_cases hlt : i < N
    · obtain ⟨W, hWd⟩ : ∃ W : World, W = wr := ⟨_, rfl⟩
      subst hWd
      have HZ0 : Hid ((adL N xs ys i).getD i 0 = 0) := by rw [Hid, adL_co, if_neg (by omega)]
      have HST := hide (adL_set N xs ys i)
      by_cases halt : i < n
      · obtain ⟨b, off, AX, nX, cX, he, hb, hcell0, hrd0⟩ := h1.at halt
        subst he
        have KX := hide (stays (W := W) ((HB.out.cell (p := ⟨b, off + i, none⟩) hb).trans hcell0))
        have RX := hide (hrd0.below HB.out)
        have HLX : Hid ((ll.getD i []).length ≤ K1) := Nat.le_trans (HKa.out i) hK2
        have HVX : Hid (val (ll.getD i []) = xs.getD i 0) := (HCA.out i).symm
        obtain ⟨AZ, nZ, cZ, hcZ, hrZ, hkZ, _⟩ := HO.out.cell hlt
        have hz9 : (adL N xs ys i).getD i 0 = 0 := HZ0.out
        rw [hz9] at hrZ
        have HLZ : Hid ((limbs (0)).length ≤ K1) := by rw [Hid, hrZ.len]; exact hkZ
        have HLS := hide (show (limbs (0 + xs.getD i 0)).length ≤ K1 by rw [Nat.zero_add]; exact Nat.le_trans (HLA.out i) hK2)
        have KZ := hide (stays hcZ)
        have RZ := hide hrZ
        have hnX : nX ≤ K1 := by rw [← hrd0.len]; exact HLX.out
        have q1 : (i : Int) < (N : Int) := by omega
        have q2 : (i : Int) < (n : Int) := by omega
        clear hcell0 hrd0 hcZ hrZ hz9
        go_wp2_with fail
        refine wp_region_tab 11 53 [IsV (.slice (some ⟨W0.heap.size, 0, none⟩) N N), IsV (.int .i64 (i : Int)), IsV (.slice (some ⟨W0.heap.size, 0, none⟩) N N), IsV (.int .i64 (i : Int)), IsV (.pointer (some ⟨W0.heap.size, i, none⟩)), IsV (.slice AZ nZ cZ), IsV (.slice (some ⟨b, off, none⟩) n c), IsV (.int .i64 (i : Int)), IsV (.pointer (some ⟨b, off + i, none⟩)), IsV (.slice AX nX cX), IsNr (0 + xs.getD i 0) K1] (From W) (by kernel_rfl) (by kernel_rfl) (by kernel_rfl) rfl From.lastsP (From.drew (From.refl W)) ?_
        simp only [List.take_succ_cons, List.drop_succ_cons, List.take_zero, List.drop_zero]
        refine Tab.cons IsV.lasting (fun wx hx hd => ?_) (fun v23 => ?_)
        · skip
          clear hd
          intro KK hK
          go_simp
          exact hK.out _ _ rfl (Below.refl _ _)
        simp only [Act.put, List.setIfInBounds_toArray, List.set_cons_zero, List.set_cons_succ]
        refine Tab.cons IsV.lasting (fun wx hx hd => ?_) (fun v24 => ?_)
        · skip
          clear hd
          intro KK hK
          go_simp
          exact hK.out _ _ rfl (Below.refl _ _)
        simp only [Act.put, List.setIfInBounds_toArray, List.set_cons_zero, List.set_cons_succ]
        refine Tab.cons IsV.lasting (fun wx hx hd => ?_) (fun v25 => ?_)
        · skip
          clear hd
          intro KK hK
          go_simp
          exact hK.out _ _ rfl (Below.refl _ _)
        simp only [Act.put, List.setIfInBounds_toArray, List.set_cons_zero, List.set_cons_succ]
        refine Tab.cons IsV.lasting (fun wx hx hd => ?_) (fun v26 => ?_)
        · skip
          clear hd
          intro KK hK
          go_simp
          exact hK.out _ _ rfl (Below.refl _ _)
        simp only [Act.put, List.setIfInBounds_toArray, List.set_cons_zero, List.set_cons_succ]
        refine Tab.cons IsV.lasting (fun wx hx hd => ?_) (fun v27 => ?_)
        · skip
          have e25 : v25 = _ := (hd _ (.tail _ (.head _)) (by kernel_rfl) : (IsV (.slice (some ⟨W0.heap.size, 0, none⟩) N N)) v25 wx)
          subst e25
          have e26 : v26 = _ := (hd _ (.head _) (by kernel_rfl) : (IsV (.int .i64 (i : Int))) v26 wx)
          subst e26
          clear hd
          intro KK hK
          go_simp
          exact hK.out _ _ rfl (Below.refl _ _)
        simp only [Act.put, List.setIfInBounds_toArray, List.set_cons_zero, List.set_cons_succ]
        refine Tab.cons IsV.lasting (fun wx hx hd => ?_) (fun v28 => ?_)
        · skip
          have e27 : v27 = _ := (hd _ (.head _) (by kernel_rfl) : (IsV (.pointer (some ⟨W0.heap.size, i, none⟩))) v27 wx)
          subst e27
          clear hd
          intro KK hK
          have hcell0 := KZ.out _ hx
          go_simp
          exact hK.out _ _ rfl (Below.refl _ _)
        simp only [Act.put, List.setIfInBounds_toArray, List.set_cons_zero, List.set_cons_succ]
        refine Tab.cons IsV.lasting (fun wx hx hd => ?_) (fun v29 => ?_)
        · skip
          clear hd
          intro KK hK
          go_simp
          exact hK.out _ _ rfl (Below.refl _ _)
        simp only [Act.put, List.setIfInBounds_toArray, List.set_cons_zero, List.set_cons_succ]
        refine Tab.cons IsV.lasting (fun wx hx hd => ?_) (fun v30 => ?_)
        · skip
          clear hd
          intro KK hK
          go_simp
          exact hK.out _ _ rfl (Below.refl _ _)
        simp only [Act.put, List.setIfInBounds_toArray, List.set_cons_zero, List.set_cons_succ]
        refine Tab.cons IsV.lasting (fun wx hx hd => ?_) (fun v31 => ?_)
        · skip
          have e29 : v29 = _ := (hd _ (.tail _ (.head _)) (by kernel_rfl) : (IsV (.slice (some ⟨b, off, none⟩) n c)) v29 wx)
          subst e29
          have e30 : v30 = _ := (hd _ (.head _) (by kernel_rfl) : (IsV (.int .i64 (i : Int))) v30 wx)
          subst e30
          clear hd
          intro KK hK
          go_simp
          exact hK.out _ _ rfl (Below.refl _ _)
        simp only [Act.put, List.setIfInBounds_toArray, List.set_cons_zero, List.set_cons_succ]
        refine Tab.cons IsV.lasting (fun wx hx hd => ?_) (fun v32 => ?_)
        · skip
          have e31 : v31 = _ := (hd _ (.head _) (by kernel_rfl) : (IsV (.pointer (some ⟨b, off + i, none⟩))) v31 wx)
          subst e31
          clear hd
          intro KK hK
          have hcell0 := KX.out _ hx
          go_simp
          exact hK.out _ _ rfl (Below.refl _ _)
        simp only [Act.put, List.setIfInBounds_toArray, List.set_cons_zero, List.set_cons_succ]
        refine Tab.cons IsNr.lasting (fun wx hx hd => ?_) (fun v33 => ?_)
        · skip
          have e28 : v28 = _ := (hd _ (.tail _ (.tail _ (.tail _ (.tail _ (.head _))))) (by kernel_rfl) : (IsV (.slice AZ nZ cZ)) v28 wx)
          subst e28
          have e32 : v32 = _ := (hd _ (.head _) (by kernel_rfl) : (IsV (.slice AX nX cX)) v32 wx)
          subst e32
          clear hd
          intro KK hK
          go_simp
          refine (radd2 (RZ.out.below hx.out) (RX.out.below hx.out) (by omega) (by omega)).mono ?_
          rintro e w' ⟨A', n', c', rfl, h', hb', hn'⟩
          rw [val_limbs, HVX.out] at h'
          exact hK.out _ _ ⟨A', n', c', rfl, h', by rw [← h'.len]; exact HLS.out⟩ hb'
        simp only [Act.put, List.setIfInBounds_toArray, List.set_cons_zero, List.set_cons_succ]
        refine Tab.nil fun wx hx hd => ?_
        have e23 : v23 = _ := (hd _ (.tail _ (.tail _ (.tail _ (.tail _ (.tail _ (.tail _ (.tail _ (.tail _ (.tail _ (.tail _ (.head _))))))))))) : (IsV (.slice (some ⟨W0.heap.size, 0, none⟩) N N)) v23 wx)
        subst e23
        have e24 : v24 = _ := (hd _ (.tail _ (.tail _ (.tail _ (.tail _ (.tail _ (.tail _ (.tail _ (.tail _ (.tail _ (.head _)))))))))) : (IsV (.int .i64 (i : Int))) v24 wx)
        subst e24
        obtain ⟨A33, n33, c33, rfl, h33, k33⟩ := (hd _ (.head _) : (IsNr (0 + xs.getD i 0) K1) v33 wx)
        clear hd
        have hOx := HO.out.below hx.out
        obtain ⟨A9, m9, c9, hc9, _, _, hf9⟩ := hOx.cell hlt
        have hO2 := hOx.store hlt h33 k33
        have hB2 := (HB.out.trans (hx.out.mono HB.out.size)).setCell (p := ⟨W0.heap.size, i, none⟩) (Nat.le_refl _) (.slice A33 n33 c33)
        have HO2 := hide hO2
        have HB2 := hide hB2
        clear hOx hO2 hB2 q2 h33 k33 hx KZ KX HO HB
        skip
        by_cases hblt : i < n2
        · go_wp2_with fail
          obtain ⟨V, hV⟩ : ∃ V, V = wx.setCell ⟨W0.heap.size, i, none⟩ (.slice A33 n33 c33) := ⟨_, rfl⟩
          rw [← hV] at HO2 HB2
          rw [← hV]
          clear hV hc9 hf9
          clear RX HLX HVX HLS RZ HLZ hnX hkZ q1 hb
          obtain ⟨W, hWd⟩ : ∃ W : World, W = V := ⟨_, rfl⟩
          subst hWd
          have HO := HO2
          have HB := HB2
          clear HO2 HB2
          obtain ⟨b, off, AX, nX, cX, he, hb, hcell0, hrd0⟩ := h2.at hblt
          subst he
          have KX := hide (stays (W := W) ((HB.out.cell (p := ⟨b, off + i, none⟩) hb).trans hcell0))
          have RX := hide (hrd0.below HB.out)
          have HLX : Hid ((kk.getD i []).length ≤ K1) := Nat.le_trans (HKb.out i) hK2
          have HVX : Hid (val (kk.getD i []) = ys.getD i 0) := (HCB.out i).symm
          obtain ⟨AZ, nZ, cZ, hcZ, hrZ, hkZ, _⟩ := HO.out.cell hlt
          have hz9 : ((adL N xs ys i).set i (0 + xs.getD i 0)).getD i 0 = xs.getD i 0 := by rw [gset_self _ _ _ (by rw [adL_len]; exact hlt), Nat.zero_add]
          rw [hz9] at hrZ
          have HLZ : Hid ((limbs (xs.getD i 0)).length ≤ K1) := by rw [Hid, hrZ.len]; exact hkZ
          have HLS := hide (show (limbs (xs.getD i 0 + ys.getD i 0)).length ≤ K1 by rw [HK9.out]; exact limbs_sum (HLA.out i) (HLB.out i))
          have KZ := hide (stays hcZ)
          have RZ := hide hrZ
          have hnX : nX ≤ K1 := by rw [← hrd0.len]; exact HLX.out
          have q1 : (i : Int) < (N : Int) := by omega
          have q2 : (i : Int) < (n2 : Int) := by omega
          clear hcell0 hrd0 hcZ hrZ hz9
          go_wp2_with fail
          refine wp_region_tab 11 53 [IsV (.slice (some ⟨W0.heap.size, 0, none⟩) N N), IsV (.int .i64 (i : Int)), IsV (.slice (some ⟨W0.heap.size, 0, none⟩) N N), IsV (.int .i64 (i : Int)), IsV (.pointer (some ⟨W0.heap.size, i, none⟩)), IsV (.slice AZ nZ cZ), IsV (.slice (some ⟨b, off, none⟩) n2 c2), IsV (.int .i64 (i : Int)), IsV (.pointer (some ⟨b, off + i, none⟩)), IsV (.slice AX nX cX), IsNr ((xs.getD i 0) + ys.getD i 0) K1] (From W) (by kernel_rfl) (by kernel_rfl) (by kernel_rfl) rfl From.lastsP (From.drew (From.refl W)) ?_
          simp only [List.take_succ_cons, List.drop_succ_cons, List.take_zero, List.drop_zero]
          refine Tab.cons IsV.lasting (fun wx hx hd => ?_) (fun v39 => ?_)
          · skip
            clear hd
            intro KK hK
            go_simp
            exact hK.out _ _ rfl (Below.refl _ _)
          simp only [Act.put, List.setIfInBounds_toArray, List.set_cons_zero, List.set_cons_succ]
          refine Tab.cons IsV.lasting (fun wx hx hd => ?_) (fun v40 => ?_)
          · skip
            clear hd
            intro KK hK
            go_simp
            exact hK.out _ _ rfl (Below.refl _ _)
          simp only [Act.put, List.setIfInBounds_toArray, List.set_cons_zero, List.set_cons_succ]
          refine Tab.cons IsV.lasting (fun wx hx hd => ?_) (fun v41 => ?_)
          · skip
            clear hd
            intro KK hK
            go_simp
            exact hK.out _ _ rfl (Below.refl _ _)
          simp only [Act.put, List.setIfInBounds_toArray, List.set_cons_zero, List.set_cons_succ]
          refine Tab.cons IsV.lasting (fun wx hx hd => ?_) (fun v42 => ?_)
          · skip
            clear hd
            intro KK hK
            go_simp
            exact hK.out _ _ rfl (Below.refl _ _)
          simp only [Act.put, List.setIfInBounds_toArray, List.set_cons_zero, List.set_cons_succ]
          refine Tab.cons IsV.lasting (fun wx hx hd => ?_) (fun v43 => ?_)
          · skip
            have e41 : v41 = _ := (hd _ (.tail _ (.head _)) (by kernel_rfl) : (IsV (.slice (some ⟨W0.heap.size, 0, none⟩) N N)) v41 wx)
            subst e41
            have e42 : v42 = _ := (hd _ (.head _) (by kernel_rfl) : (IsV (.int .i64 (i : Int))) v42 wx)
            subst e42
            clear hd
            intro KK hK
            go_simp
            exact hK.out _ _ rfl (Below.refl _ _)
          simp only [Act.put, List.setIfInBounds_toArray, List.set_cons_zero, List.set_cons_succ]
          refine Tab.cons IsV.lasting (fun wx hx hd => ?_) (fun v44 => ?_)
          · skip
            have e43 : v43 = _ := (hd _ (.head _) (by kernel_rfl) : (IsV (.pointer (some ⟨W0.heap.size, i, none⟩))) v43 wx)
            subst e43
            clear hd
            intro KK hK
            have hcell0 := KZ.out _ hx
            go_simp
            exact hK.out _ _ rfl (Below.refl _ _)
          simp only [Act.put, List.setIfInBounds_toArray, List.set_cons_zero, List.set_cons_succ]
          refine Tab.cons IsV.lasting (fun wx hx hd => ?_) (fun v45 => ?_)
          · skip
            clear hd
            intro KK hK
            go_simp
            exact hK.out _ _ rfl (Below.refl _ _)
          simp only [Act.put, List.setIfInBounds_toArray, List.set_cons_zero, List.set_cons_succ]
          refine Tab.cons IsV.lasting (fun wx hx hd => ?_) (fun v46 => ?_)
          · skip
            clear hd
            intro KK hK
            go_simp
            exact hK.out _ _ rfl (Below.refl _ _)
          simp only [Act.put, List.setIfInBounds_toArray, List.set_cons_zero, List.set_cons_succ]
          refine Tab.cons IsV.lasting (fun wx hx hd => ?_) (fun v47 => ?_)
          · skip
            have e45 : v45 = _ := (hd _ (.tail _ (.head _)) (by kernel_rfl) : (IsV (.slice (some ⟨b, off, none⟩) n2 c2)) v45 wx)
            subst e45
            have e46 : v46 = _ := (hd _ (.head _) (by kernel_rfl) : (IsV (.int .i64 (i : Int))) v46 wx)
            subst e46
            clear hd
            intro KK hK
            go_simp
            exact hK.out _ _ rfl (Below.refl _ _)
          simp only [Act.put, List.setIfInBounds_toArray, List.set_cons_zero, List.set_cons_succ]
          refine Tab.cons IsV.lasting (fun wx hx hd => ?_) (fun v48 => ?_)
          · skip
            have e47 : v47 = _ := (hd _ (.head _) (by kernel_rfl) : (IsV (.pointer (some ⟨b, off + i, none⟩))) v47 wx)
            subst e47
            clear hd
            intro KK hK
            have hcell0 := KX.out _ hx
            go_simp
            exact hK.out _ _ rfl (Below.refl _ _)
          simp only [Act.put, List.setIfInBounds_toArray, List.set_cons_zero, List.set_cons_succ]
          refine Tab.cons IsNr.lasting (fun wx hx hd => ?_) (fun v49 => ?_)
          · skip
            have e44 : v44 = _ := (hd _ (.tail _ (.tail _ (.tail _ (.tail _ (.head _))))) (by kernel_rfl) : (IsV (.slice AZ nZ cZ)) v44 wx)
            subst e44
            have e48 : v48 = _ := (hd _ (.head _) (by kernel_rfl) : (IsV (.slice AX nX cX)) v48 wx)
            subst e48
            clear hd
            intro KK hK
            go_simp
            refine (radd2 (RZ.out.below hx.out) (RX.out.below hx.out) (by omega) (by omega)).mono ?_
            rintro e w' ⟨A', n', c', rfl, h', hb', hn'⟩
            rw [val_limbs, HVX.out] at h'
            exact hK.out _ _ ⟨A', n', c', rfl, h', by rw [← h'.len]; exact HLS.out⟩ hb'
          simp only [Act.put, List.setIfInBounds_toArray, List.set_cons_zero, List.set_cons_succ]
          refine Tab.nil fun wx hx hd => ?_
          have e39 : v39 = _ := (hd _ (.tail _ (.tail _ (.tail _ (.tail _ (.tail _ (.tail _ (.tail _ (.tail _ (.tail _ (.tail _ (.head _))))))))))) : (IsV (.slice (some ⟨W0.heap.size, 0, none⟩) N N)) v39 wx)
          subst e39
          have e40 : v40 = _ := (hd _ (.tail _ (.tail _ (.tail _ (.tail _ (.tail _ (.tail _ (.tail _ (.tail _ (.tail _ (.head _)))))))))) : (IsV (.int .i64 (i : Int))) v40 wx)
          subst e40
          obtain ⟨A49, n49, c49, rfl, h49, k49⟩ := (hd _ (.head _) : (IsNr ((xs.getD i 0) + ys.getD i 0) K1) v49 wx)
          clear hd
          have hOx := HO.out.below hx.out
          obtain ⟨A9, m9, c9, hc9, _, _, hf9⟩ := hOx.cell hlt
          have hO2 := hOx.store hlt h49 k49
          have hB2 := (HB.out.trans (hx.out.mono HB.out.size)).setCell (p := ⟨W0.heap.size, i, none⟩) (Nat.le_refl _) (.slice A49 n49 c49)
          have HO2 := hide hO2
          have HB2 := hide hB2
          clear hOx hO2 hB2 q2 h49 k49 hx KZ KX HO HB
          skip
          have hfin := HO2.out
          rw [List.set_set, HST.out] at hfin
          have HFIN := hide hfin
          clear hfin HO2
          go_wp2
          go_roundw
          case rel => exact ⟨i + 1, by omega, by go_num, HFIN.out, HB2.out⟩
          case measure => simp [intOf]; omega
        · have hfin := HO2.out
          have hb0 : ys.getD i 0 = 0 := co_far (by have := HYL.out; omega)
          have hst := HST.out
          rw [hb0, Nat.add_zero] at hst
          rw [Nat.zero_add, hst] at hfin
          have HFIN := hide hfin
          clear hfin HO2 hst hb0
          go_wp2
          go_roundw
          case rel => exact ⟨i + 1, by omega, by go_num, HFIN.out, HB2.out⟩
          case measure => simp [intOf]; omega
      · have hblt : i < n2 := by have := HNM.out; omega
        obtain ⟨b, off, AX, nX, cX, he, hb, hcell0, hrd0⟩ := h2.at hblt
        subst he
        have KX := hide (stays (W := W) ((HB.out.cell (p := ⟨b, off + i, none⟩) hb).trans hcell0))
        have RX := hide (hrd0.below HB.out)
        have HLX : Hid ((kk.getD i []).length ≤ K1) := Nat.le_trans (HKb.out i) hK2
        have HVX : Hid (val (kk.getD i []) = ys.getD i 0) := (HCB.out i).symm
        obtain ⟨AZ, nZ, cZ, hcZ, hrZ, hkZ, _⟩ := HO.out.cell hlt
        have hz9 : (adL N xs ys i).getD i 0 = 0 := HZ0.out
        rw [hz9] at hrZ
        have HLZ : Hid ((limbs (0)).length ≤ K1) := by rw [Hid, hrZ.len]; exact hkZ
        have HLS := hide (show (limbs (0 + ys.getD i 0)).length ≤ K1 by rw [Nat.zero_add]; exact Nat.le_trans (HLB.out i) hK2)
        have KZ := hide (stays hcZ)
        have RZ := hide hrZ
        have hnX : nX ≤ K1 := by rw [← hrd0.len]; exact HLX.out
        have q1 : (i : Int) < (N : Int) := by omega
        have q2 : (i : Int) < (n2 : Int) := by omega
        clear hcell0 hrd0 hcZ hrZ hz9
        go_wp2_with fail
        refine wp_region_tab 11 53 [IsV (.slice (some ⟨W0.heap.size, 0, none⟩) N N), IsV (.int .i64 (i : Int)), IsV (.slice (some ⟨W0.heap.size, 0, none⟩) N N), IsV (.int .i64 (i : Int)), IsV (.pointer (some ⟨W0.heap.size, i, none⟩)), IsV (.slice AZ nZ cZ), IsV (.slice (some ⟨b, off, none⟩) n2 c2), IsV (.int .i64 (i : Int)), IsV (.pointer (some ⟨b, off + i, none⟩)), IsV (.slice AX nX cX), IsNr (0 + ys.getD i 0) K1] (From W) (by kernel_rfl) (by kernel_rfl) (by kernel_rfl) rfl From.lastsP (From.drew (From.refl W)) ?_
        simp only [List.take_succ_cons, List.drop_succ_cons, List.take_zero, List.drop_zero]
        refine Tab.cons IsV.lasting (fun wx hx hd => ?_) (fun v39 => ?_)
        · skip
          clear hd
          intro KK hK
          go_simp
          exact hK.out _ _ rfl (Below.refl _ _)
        simp only [Act.put, List.setIfInBounds_toArray, List.set_cons_zero, List.set_cons_succ]
        refine Tab.cons IsV.lasting (fun wx hx hd => ?_) (fun v40 => ?_)
        · skip
          clear hd
          intro KK hK
          go_simp
          exact hK.out _ _ rfl (Below.refl _ _)
        simp only [Act.put, List.setIfInBounds_toArray, List.set_cons_zero, List.set_cons_succ]
        refine Tab.cons IsV.lasting (fun wx hx hd => ?_) (fun v41 => ?_)
        · skip
          clear hd
          intro KK hK
          go_simp
          exact hK.out _ _ rfl (Below.refl _ _)
        simp only [Act.put, List.setIfInBounds_toArray, List.set_cons_zero, List.set_cons_succ]
        refine Tab.cons IsV.lasting (fun wx hx hd => ?_) (fun v42 => ?_)
        · skip
          clear hd
          intro KK hK
          go_simp
          exact hK.out _ _ rfl (Below.refl _ _)
        simp only [Act.put, List.setIfInBounds_toArray, List.set_cons_zero, List.set_cons_succ]
        refine Tab.cons IsV.lasting (fun wx hx hd => ?_) (fun v43 => ?_)
        · skip
          have e41 : v41 = _ := (hd _ (.tail _ (.head _)) (by kernel_rfl) : (IsV (.slice (some ⟨W0.heap.size, 0, none⟩) N N)) v41 wx)
          subst e41
          have e42 : v42 = _ := (hd _ (.head _) (by kernel_rfl) : (IsV (.int .i64 (i : Int))) v42 wx)
          subst e42
          clear hd
          intro KK hK
          go_simp
          exact hK.out _ _ rfl (Below.refl _ _)
        simp only [Act.put, List.setIfInBounds_toArray, List.set_cons_zero, List.set_cons_succ]
        refine Tab.cons IsV.lasting (fun wx hx hd => ?_) (fun v44 => ?_)
        · skip
          have e43 : v43 = _ := (hd _ (.head _) (by kernel_rfl) : (IsV (.pointer (some ⟨W0.heap.size, i, none⟩))) v43 wx)
          subst e43
          clear hd
          intro KK hK
          have hcell0 := KZ.out _ hx
          go_simp
          exact hK.out _ _ rfl (Below.refl _ _)
        simp only [Act.put, List.setIfInBounds_toArray, List.set_cons_zero, List.set_cons_succ]
        refine Tab.cons IsV.lasting (fun wx hx hd => ?_) (fun v45 => ?_)
        · skip
          clear hd
          intro KK hK
          go_simp
          exact hK.out _ _ rfl (Below.refl _ _)
        simp only [Act.put, List.setIfInBounds_toArray, List.set_cons_zero, List.set_cons_succ]
        refine Tab.cons IsV.lasting (fun wx hx hd => ?_) (fun v46 => ?_)
        · skip
          clear hd
          intro KK hK
          go_simp
          exact hK.out _ _ rfl (Below.refl _ _)
        simp only [Act.put, List.setIfInBounds_toArray, List.set_cons_zero, List.set_cons_succ]
        refine Tab.cons IsV.lasting (fun wx hx hd => ?_) (fun v47 => ?_)
        · skip
          have e45 : v45 = _ := (hd _ (.tail _ (.head _)) (by kernel_rfl) : (IsV (.slice (some ⟨b, off, none⟩) n2 c2)) v45 wx)
          subst e45
          have e46 : v46 = _ := (hd _ (.head _) (by kernel_rfl) : (IsV (.int .i64 (i : Int))) v46 wx)
          subst e46
          clear hd
          intro KK hK
          go_simp
          exact hK.out _ _ rfl (Below.refl _ _)
        simp only [Act.put, List.setIfInBounds_toArray, List.set_cons_zero, List.set_cons_succ]
        refine Tab.cons IsV.lasting (fun wx hx hd => ?_) (fun v48 => ?_)
        · skip
          have e47 : v47 = _ := (hd _ (.head _) (by kernel_rfl) : (IsV (.pointer (some ⟨b, off + i, none⟩))) v47 wx)
          subst e47
          clear hd
          intro KK hK
          have hcell0 := KX.out _ hx
          go_simp
          exact hK.out _ _ rfl (Below.refl _ _)
        simp only [Act.put, List.setIfInBounds_toArray, List.set_cons_zero, List.set_cons_succ]
        refine Tab.cons IsNr.lasting (fun wx hx hd => ?_) (fun v49 => ?_)
        · skip
          have e44 : v44 = _ := (hd _ (.tail _ (.tail _ (.tail _ (.tail _ (.head _))))) (by kernel_rfl) : (IsV (.slice AZ nZ cZ)) v44 wx)
          subst e44
          have e48 : v48 = _ := (hd _ (.head _) (by kernel_rfl) : (IsV (.slice AX nX cX)) v48 wx)
          subst e48
          clear hd
          intro KK hK
          go_simp
          refine (radd2 (RZ.out.below hx.out) (RX.out.below hx.out) (by omega) (by omega)).mono ?_
          rintro e w' ⟨A', n', c', rfl, h', hb', hn'⟩
          rw [val_limbs, HVX.out] at h'
          exact hK.out _ _ ⟨A', n', c', rfl, h', by rw [← h'.len]; exact HLS.out⟩ hb'
        simp only [Act.put, List.setIfInBounds_toArray, List.set_cons_zero, List.set_cons_succ]
        refine Tab.nil fun wx hx hd => ?_
        have e39 : v39 = _ := (hd _ (.tail _ (.tail _ (.tail _ (.tail _ (.tail _ (.tail _ (.tail _ (.tail _ (.tail _ (.tail _ (.head _))))))))))) : (IsV (.slice (some ⟨W0.heap.size, 0, none⟩) N N)) v39 wx)
        subst e39
        have e40 : v40 = _ := (hd _ (.tail _ (.tail _ (.tail _ (.tail _ (.tail _ (.tail _ (.tail _ (.tail _ (.tail _ (.head _)))))))))) : (IsV (.int .i64 (i : Int))) v40 wx)
        subst e40
        obtain ⟨A49, n49, c49, rfl, h49, k49⟩ := (hd _ (.head _) : (IsNr (0 + ys.getD i 0) K1) v49 wx)
        clear hd
        have hOx := HO.out.below hx.out
        obtain ⟨A9, m9, c9, hc9, _, _, hf9⟩ := hOx.cell hlt
        have hO2 := hOx.store hlt h49 k49
        have hB2 := (HB.out.trans (hx.out.mono HB.out.size)).setCell (p := ⟨W0.heap.size, i, none⟩) (Nat.le_refl _) (.slice A49 n49 c49)
        have HO2 := hide hO2
        have HB2 := hide hB2
        clear hOx hO2 hB2 q2 h49 k49 hx KZ KX HO HB
        skip
        have hfin := HO2.out
        have ha0 : xs.getD i 0 = 0 := co_far (by have := HXL.out; omega)
        have hst := HST.out
        rw [ha0] at hst
        rw [hst] at hfin
        have HFIN := hide hfin
        clear hfin HO2 hst ha0
        go_wp2
        go_roundw
        case rel => exact ⟨i + 1, by omega, by go_num, HFIN.out, HB2.out⟩
        case measure => simp [intOf]; omega
    · obtain rfl : N = i := by omega
      have hr := HO.out.rd
      have hend : adL N xs ys N = addL xs ys := by
        have := adL_end xs ys
        rw [HXL.out, HYL.out, ← HNM.out] at this
        exact this
      rw [hend] at hr
      have hcall := poly_any wr _ N N ((addL xs ys).map limbs) K1 hr.rdl hr.few (by omega) (by omega)
      rw [map_val_limbs] at hcall
      have HC := hide hcall
      clear hr hend hcall
      go_wp2_with fail
      refine HC.out.mono ?_
      rintro e w3 ⟨A3, n3, c3, rfl, r3, hb3⟩
      have HR := hide (And.intro r3 (below_step hb3 HB.out))
      clear r3 hb3
      go_wp2
      go_ret
      exact ⟨_, _, _, rfl, HR.out.1, HR.out.2⟩
end Go.Proofs.Ytonimfogmplgdaa
