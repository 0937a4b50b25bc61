/- The walk of the law SemiringCounts. -/
import Derived.Test.YtpfhohfcohkhnaaSemi
import Derived.Deep.CutRange
import Derived.Deep.RegionHeld3
namespace Go.Proofs.Ytpfhohfcohkhnaa
open Go.RowKit

theorem rsame_yes' {w : World} {A B : Option Addr} {n c m d x y : Nat} (h : Rd w A n c (limbs x)) (h' : Rd w B m d (limbs y)) (e : x = y) :
    Calls Try.prog 66 #[.slice A n c, .slice B m d] w (Makes (.bool true) w) := rsame_num_yes h h' e
theorem rcmp1 {w : World} {A B : Option Addr} {n c m d : Nat} {l k : List Nat} (h : Rd w A n c l) (h' : Rd w B m d k) :
    Calls Try.prog 62 #[.slice A n c, .slice B m d] w (Makes (.int .i64 (cmpV (val l) (val k))) w) :=
  (rcmp_any _ _ _ _ _ _ _ _ _ h h').mono fun _ _ ⟨he, hw⟩ => ⟨he, by rw [hw]; exact Below.refl _ _⟩
theorem rdll_one {w : World} {A : Option Addr} {n c : Nat} {ll : List (List Nat)} (h : RdL w A n c ll) :
    RdLL (w.alloc (.cells #[.slice A n c] 54)) (some ⟨w.heap.size, 0, none⟩) 1 1 [ll] := by
  refine ⟨rfl, fun _ => ⟨w.heap.size, 0, rfl, by simp, fun j hj => ?_⟩⟩
  obtain rfl : j = 0 := by omega
  exact ⟨A, n, c, by rw [cell_of_row _ _ _ _ _ _ (heap_alloc_new w _)]; rfl, h.below (below_alloc w _)⟩
set_option maxHeartbeats 8000000 in
set_option maxRecDepth 10000 in
theorem law_SemiringCounts (w : World) (Aa : Option Addr) (na ca : Nat) (la : List Nat) (ha : Rd w Aa na ca la) (sa : na ≤ 35184372088832) (Ab : Option Addr) (nb cb : Nat) (lb : List Nat) (hb : Rd w Ab nb cb lb) (sb : nb ≤ 35184372088832) (Ac : Option Addr) (nc cc : Nat) (lc : List Nat) (hc : Rd w Ac nc cc lc) (sc : nc ≤ 35184372088832) :
    Calls Try.prog 17 #[.slice Aa na ca, .slice Ab nb cb, .slice Ac nc cc] w (Makes (.bool true) w) := by
  have hS := below_alloc w (Obj.cells #[] 67)
  obtain ⟨w1, hw1⟩ : ∃ w1, w1 = World.alloc w (Obj.cells #[] 67) := ⟨_, rfl⟩
  rw [← hw1] at hS
  have H1 := hide hw1
  replace ha : Rd w1 Aa na ca la := by rw [hw1]; exact ha.below (below_alloc w _)
  replace hb : Rd w1 Ab nb cb lb := by rw [hw1]; exact hb.below (below_alloc w _)
  replace hc : Rd w1 Ac nc cc lc := by rw [hw1]; exact hc.below (below_alloc w _)
  have hL := rdl_three 42 ha hb hc
  have hLL := rdll_one hL
  have hlen : ∀ ll ∈ [[la, lb, lc]], ll.length ≤ 35184372088832 ∧ ∀ l ∈ ll, l.length ≤ 35184372088832 := by
    intro ll hll
    simp only [List.mem_singleton] at hll
    subst hll
    refine ⟨by simp, fun l hl => ?_⟩
    simp only [List.mem_cons, List.not_mem_nil, or_false] at hl
    rcases hl with rfl | rfl | rfl
    · rw [ha.len]; exact sa
    · rw [hb.len]; exact sb
    · rw [hc.len]; exact sc
  have hcall := little_any _ 1 1 _ _ hLL (by omega) hlen
  have hS2 := below_step (below_alloc _ (.cells #[.slice (some ⟨w1.heap.size, 0, none⟩) 3 3] 54)) (below_step (below_alloc w1 (.cells #[.slice Aa na ca, .slice Ab nb cb, .slice Ac nc cc] 42)) hS)
  have e1 : (World.alloc w1 (.cells #[.slice Aa na ca, .slice Ab nb cb, .slice Ac nc cc] 42)).heap.size = w.heap.size + 1 + 1 := by rw [hw1]; simp
  have e2 : w1.heap.size = w.heap.size + 1 := by rw [hw1]; simp
  rw [e1, e2] at hcall
  rw [e2] at hS2
  rw [hw1] at hcall hS2
  clear e1 e2
  have HCALL := hide hcall
  have hB : Below w1.heap.size w1 (World.alloc (World.alloc (World.alloc w (Obj.cells #[] 67)) (.cells #[.slice Aa na ca, .slice Ab nb cb, .slice Ac nc cc] 42)) (.cells #[.slice (some ⟨w.heap.size + 1, 0, none⟩) 3 3] 54)) := by
    rw [hw1]
    exact ((Below.refl _ _).alloc (Nat.le_refl _) _).alloc (by simp) _
  replace ha := ha.below hB
  replace hb := hb.below hB
  replace hc := hc.below hB
  clear hw1 hL hLL hlen hcall hS H1 hB
  go_enter Try.func17, Try.ntmps17
  go_wp2_with fail
  refine HCALL.out.mono ?_
  rintro e w2 ⟨q, rfl, rfl, hq⟩
  clear HCALL
  obtain ⟨w0, hw0⟩ : ∃ w0, w0 = (World.alloc (World.alloc (World.alloc w (Obj.cells #[] 67)) (.cells #[.slice Aa na ca, .slice Ab nb cb, .slice Ac nc cc] 42)) (.cells #[.slice (some ⟨w.heap.size + 1, 0, none⟩) 3 3] 54)) := ⟨_, rfl⟩
  rw [← hw0] at ha hb hc hS2 ⊢
  clear hw0
  cases q with
  | false =>
    clear hq ha hb hc
    go_wp2_with fail
    refine (alive_any _).mono ?_
    rintro e w3 ⟨rfl, hb3⟩
    go_wp2
    go_ret
    exact ⟨rfl, below_step hb3 hS2⟩
  | true =>
    have hsum := hq rfl
    simp only [sizeLL, size1, List.map_cons, List.map_nil, List.sum_cons, List.sum_nil, List.length_cons, List.length_nil, ha.len, hb.len, hc.len] at hsum
    clear hq sa sb sc
    have hs2 : na + nb + nc ≤ 117 := by omega
    clear hsum
    go_wp2_with fail
    refine (counting_zero _).mono ?_
    rintro e w4 ⟨A4, n4, c4, rfl, hz, hb4, hn4⟩
    try simp only [val_limbs] at hz
    try simp only [val_nil] at hz
    replace ha := ha.below hb4
    replace hb := hb.below hb4
    replace hc := hc.below hb4
    replace hS2 := below_step hb4 hS2
    clear hb4
    go_wp2_with fail
    refine (rsame_yes' hz (by rw [limbs_zero]; exact Rd.nil _) rfl).mono ?_
    rintro e w5 ⟨rfl, hb5⟩
    replace ha := ha.below hb5
    replace hb := hb.below hb5
    replace hc := hc.below hb5
    replace hz := hz.below hb5
    replace hS2 := below_step hb5 hS2
    clear hb5
    clear hz
    go_wp2_with fail
    refine (counting_one _).mono ?_
    rintro e w6 ⟨A6, n6, c6, rfl, ho, hb6, hn6⟩
    try simp only [val_limbs] at ho
    try simp only [val_nil] at ho
    replace ha := ha.below hb6
    replace hb := hb.below hb6
    replace hc := hc.below hb6
    replace hS2 := below_step hb6 hS2
    clear hb6
    have h1 := rd_lit1 (w := w6) (x := 1) (w6.heap.size) (by simp) 1 rfl (by omega) (by omega)
    replace ha := ha.below (below_alloc _ (.cells #[Value.int .u32 1] 56))
    replace hb := hb.below (below_alloc _ (.cells #[Value.int .u32 1] 56))
    replace hc := hc.below (below_alloc _ (.cells #[Value.int .u32 1] 56))
    replace ho := ho.below (below_alloc _ (.cells #[Value.int .u32 1] 56))
    replace hS2 := below_step (below_alloc _ (.cells #[Value.int .u32 1] 56)) hS2
    go_wp2_with fail
    refine (rsame_yes' ho h1 rfl).mono ?_
    rintro e w7 ⟨rfl, hb7⟩
    replace ha := ha.below hb7
    replace hb := hb.below hb7
    replace hc := hc.below hb7
    replace ho := ho.below hb7
    replace h1 := h1.below hb7
    replace hS2 := below_step hb7 hS2
    clear hb7
    clear ho h1
    go_wp2_with fail
    refine (counting_add ha hb (by omega) (by omega)).mono ?_
    rintro e w8 ⟨A8, n8, c8, rfl, hu, hb8, hn8⟩
    try simp only [val_limbs] at hu
    try simp only [val_nil] at hu
    replace ha := ha.below hb8
    replace hb := hb.below hb8
    replace hc := hc.below hb8
    replace hS2 := below_step hb8 hS2
    clear hb8
    go_wp2_with fail
    refine (radd2 ha hb (by omega) (by omega)).mono ?_
    rintro e w9 ⟨A9, n9, c9, rfl, hv, hb9, hn9⟩
    try simp only [val_limbs] at hv
    try simp only [val_nil] at hv
    replace ha := ha.below hb9
    replace hb := hb.below hb9
    replace hc := hc.below hb9
    replace hu := hu.below hb9
    replace hS2 := below_step hb9 hS2
    clear hb9
    go_wp2_with fail
    refine (rsame_yes' hu hv rfl).mono ?_
    rintro e w10 ⟨rfl, hb10⟩
    replace ha := ha.below hb10
    replace hb := hb.below hb10
    replace hc := hc.below hb10
    replace hu := hu.below hb10
    replace hv := hv.below hb10
    replace hS2 := below_step hb10 hS2
    clear hb10
    clear hu hv
    go_wp2_with fail
    refine (counting_mul ha hb (by omega) (by omega)).mono ?_
    rintro e w11 ⟨A11, n11, c11, rfl, hu, hb11, hn11⟩
    try simp only [val_limbs] at hu
    try simp only [val_nil] at hu
    replace ha := ha.below hb11
    replace hb := hb.below hb11
    replace hc := hc.below hb11
    replace hS2 := below_step hb11 hS2
    clear hb11
    go_wp2_with fail
    refine (rmul2 ha hb (by omega) (by omega)).mono ?_
    rintro e w12 ⟨A12, n12, c12, rfl, hv, hb12, hn12⟩
    try simp only [val_limbs] at hv
    try simp only [val_nil] at hv
    replace ha := ha.below hb12
    replace hb := hb.below hb12
    replace hc := hc.below hb12
    replace hu := hu.below hb12
    replace hS2 := below_step hb12 hS2
    clear hb12
    go_wp2_with fail
    refine (rsame_yes' hu hv rfl).mono ?_
    rintro e w13 ⟨rfl, hb13⟩
    replace ha := ha.below hb13
    replace hb := hb.below hb13
    replace hc := hc.below hb13
    replace hu := hu.below hb13
    replace hv := hv.below hb13
    replace hS2 := below_step hb13 hS2
    clear hb13
    clear hu hv
    go_upto_region 8 with fail
    go_cut [78] from 48 to 78 (fun c78 wx => c78 = .bool false ∧ From w13 wx)
    case first =>
      have hF := From.refl w13
      go_region_held3 (fun w' => From w13 w') (first | assumption | exact From.drew (by assumption))
        (first
        | (go_at_call 67; refine (counting_zero _).mono ?_; rintro e w' ⟨A', n', c', rfl, h', hb', hn'⟩; have hF' : From _ _ := From.step (by assumption) hb')
        | (go_at_call 68; refine (counting_one _).mono ?_; rintro e w' ⟨A', n', c', rfl, h', hb', hn'⟩; have hF' : From _ _ := From.step (by assumption) hb')
        | (go_at_call 69; refine (counting_add (by repeat (first | with_reducible assumption | with_reducible exact Rd.drew (by assumption) | ((with_reducible apply Rd.up); (with_reducible assumption)))) (by repeat (first | with_reducible assumption | with_reducible exact Rd.drew (by assumption) | ((with_reducible apply Rd.up); (with_reducible assumption)))) (by omega) (by omega)).mono ?_; rintro e w' ⟨A', n', c', rfl, h', hb', hn'⟩; have hF' : From _ _ := From.step (by assumption) hb')
        | (go_at_call 70; refine (counting_mul (by repeat (first | with_reducible assumption | with_reducible exact Rd.drew (by assumption) | ((with_reducible apply Rd.up); (with_reducible assumption)))) (by repeat (first | with_reducible assumption | with_reducible exact Rd.drew (by assumption) | ((with_reducible apply Rd.up); (with_reducible assumption)))) (by omega) (by omega)).mono ?_; rintro e w' ⟨A', n', c', rfl, h', hb', hn'⟩; have hF' : From _ _ := From.step (by assumption) hb')
        | (go_at_call 71; refine (counting_same_yes (by repeat (first | with_reducible assumption | with_reducible exact Rd.drew (by assumption) | ((with_reducible apply Rd.up); (with_reducible assumption)))) (by repeat (first | with_reducible assumption | with_reducible exact Rd.drew (by assumption) | ((with_reducible apply Rd.up); (with_reducible assumption)))) (by simp only [val_limbs, Nat.add_zero, Nat.mul_one])).mono ?_; rintro e w' ⟨rfl, hb'⟩; have hF' : From _ _ := From.step (by assumption) hb')
        | (go_at_call 71; refine (counting_same (by repeat (first | with_reducible assumption | with_reducible exact Rd.drew (by assumption) | ((with_reducible apply Rd.up); (with_reducible assumption)))) (by repeat (first | with_reducible assumption | with_reducible exact Rd.drew (by assumption) | ((with_reducible apply Rd.up); (with_reducible assumption))))).mono ?_; rintro e w' ⟨rfl, hb'⟩; have hF' : From _ _ := From.step (by assumption) hb')
        | (go_at_call 66; refine (rsame_yes' (by repeat (first | with_reducible assumption | with_reducible exact Rd.drew (by assumption) | ((with_reducible apply Rd.up); (with_reducible assumption)))) (by repeat (first | with_reducible assumption | with_reducible exact Rd.drew (by assumption) | ((with_reducible apply Rd.up); (with_reducible assumption)))) (by simp only [val_limbs]; first | rfl | exact Nat.mul_add _ _ _ | exact (Nat.add_assoc _ _ _).symm | exact (Nat.mul_assoc _ _ _).symm)).mono ?_; rintro e w' ⟨rfl, hb'⟩; have hF' : From _ _ := From.step (by assumption) hb')
        | (go_at_call 62; refine (rcmp1 (by repeat (first | with_reducible assumption | with_reducible exact Rd.drew (by assumption) | ((with_reducible apply Rd.up); (with_reducible assumption)))) (by repeat (first | with_reducible assumption | with_reducible exact Rd.drew (by assumption) | ((with_reducible apply Rd.up); (with_reducible assumption))))).mono ?_; rintro e w' ⟨rfl, hb'⟩; have hF' : From _ _ := From.step (by assumption) hb'))
      all_goals
        go_wp2
        go_meet
        case rel => exact ⟨by rfl, by assumption⟩
    case rest =>
      obtain ⟨rfl, hF⟩ := hcut
      obtain ⟨w14, hwk⟩ : ∃ w14 : World, w14 = wc := ⟨_, rfl⟩
      subst hwk
      have hb14 := hF.out
      clear hF
      replace ha := ha.below hb14
      replace hb := hb.below hb14
      replace hc := hc.below hb14
      replace hS2 := below_step hb14 hS2
      clear hb14
      go_upto_region 10 with fail
      go_cut [97] from 79 to 97 (fun c97 wx => c97 = .bool false ∧ From w14 wx)
      case first =>
        have hF := From.refl w14
        go_region_held3 (fun w' => From w14 w') (first | assumption | exact From.drew (by assumption))
          (first
          | (go_at_call 67; refine (counting_zero _).mono ?_; rintro e w' ⟨A', n', c', rfl, h', hb', hn'⟩; have hF' : From _ _ := From.step (by assumption) hb')
          | (go_at_call 68; refine (counting_one _).mono ?_; rintro e w' ⟨A', n', c', rfl, h', hb', hn'⟩; have hF' : From _ _ := From.step (by assumption) hb')
          | (go_at_call 69; refine (counting_add (by repeat (first | with_reducible assumption | with_reducible exact Rd.drew (by assumption) | ((with_reducible apply Rd.up); (with_reducible assumption)))) (by repeat (first | with_reducible assumption | with_reducible exact Rd.drew (by assumption) | ((with_reducible apply Rd.up); (with_reducible assumption)))) (by omega) (by omega)).mono ?_; rintro e w' ⟨A', n', c', rfl, h', hb', hn'⟩; have hF' : From _ _ := From.step (by assumption) hb')
          | (go_at_call 70; refine (counting_mul (by repeat (first | with_reducible assumption | with_reducible exact Rd.drew (by assumption) | ((with_reducible apply Rd.up); (with_reducible assumption)))) (by repeat (first | with_reducible assumption | with_reducible exact Rd.drew (by assumption) | ((with_reducible apply Rd.up); (with_reducible assumption)))) (by omega) (by omega)).mono ?_; rintro e w' ⟨A', n', c', rfl, h', hb', hn'⟩; have hF' : From _ _ := From.step (by assumption) hb')
          | (go_at_call 71; refine (counting_same_yes (by repeat (first | with_reducible assumption | with_reducible exact Rd.drew (by assumption) | ((with_reducible apply Rd.up); (with_reducible assumption)))) (by repeat (first | with_reducible assumption | with_reducible exact Rd.drew (by assumption) | ((with_reducible apply Rd.up); (with_reducible assumption)))) (by simp only [val_limbs, Nat.add_zero, Nat.mul_one])).mono ?_; rintro e w' ⟨rfl, hb'⟩; have hF' : From _ _ := From.step (by assumption) hb')
          | (go_at_call 71; refine (counting_same (by repeat (first | with_reducible assumption | with_reducible exact Rd.drew (by assumption) | ((with_reducible apply Rd.up); (with_reducible assumption)))) (by repeat (first | with_reducible assumption | with_reducible exact Rd.drew (by assumption) | ((with_reducible apply Rd.up); (with_reducible assumption))))).mono ?_; rintro e w' ⟨rfl, hb'⟩; have hF' : From _ _ := From.step (by assumption) hb')
          | (go_at_call 66; refine (rsame_yes' (by repeat (first | with_reducible assumption | with_reducible exact Rd.drew (by assumption) | ((with_reducible apply Rd.up); (with_reducible assumption)))) (by repeat (first | with_reducible assumption | with_reducible exact Rd.drew (by assumption) | ((with_reducible apply Rd.up); (with_reducible assumption)))) (by simp only [val_limbs]; first | rfl | exact Nat.mul_add _ _ _ | exact (Nat.add_assoc _ _ _).symm | exact (Nat.mul_assoc _ _ _).symm)).mono ?_; rintro e w' ⟨rfl, hb'⟩; have hF' : From _ _ := From.step (by assumption) hb')
          | (go_at_call 62; refine (rcmp1 (by repeat (first | with_reducible assumption | with_reducible exact Rd.drew (by assumption) | ((with_reducible apply Rd.up); (with_reducible assumption)))) (by repeat (first | with_reducible assumption | with_reducible exact Rd.drew (by assumption) | ((with_reducible apply Rd.up); (with_reducible assumption))))).mono ?_; rintro e w' ⟨rfl, hb'⟩; have hF' : From _ _ := From.step (by assumption) hb'))
        all_goals
          go_wp2
          go_meet
          case rel => exact ⟨by rfl, by assumption⟩
      case rest =>
        obtain ⟨rfl, hF⟩ := hcut
        obtain ⟨w15, hwk⟩ : ∃ w15 : World, w15 = wc := ⟨_, rfl⟩
        subst hwk
        have hb15 := hF.out
        clear hF
        replace ha := ha.below hb15
        replace hb := hb.below hb15
        replace hc := hc.below hb15
        replace hS2 := below_step hb15 hS2
        clear hb15
        go_wp2_with fail
        have hF := From.refl w15
        go_region_held3 (fun w' => From w15 w') (first | assumption | exact From.drew (by assumption))
          (first
          | (go_at_call 67; refine (counting_zero _).mono ?_; rintro e w' ⟨A', n', c', rfl, h', hb', hn'⟩; have hF' : From _ _ := From.step (by assumption) hb')
          | (go_at_call 68; refine (counting_one _).mono ?_; rintro e w' ⟨A', n', c', rfl, h', hb', hn'⟩; have hF' : From _ _ := From.step (by assumption) hb')
          | (go_at_call 69; refine (counting_add (by repeat (first | with_reducible assumption | with_reducible exact Rd.drew (by assumption) | ((with_reducible apply Rd.up); (with_reducible assumption)))) (by repeat (first | with_reducible assumption | with_reducible exact Rd.drew (by assumption) | ((with_reducible apply Rd.up); (with_reducible assumption)))) (by omega) (by omega)).mono ?_; rintro e w' ⟨A', n', c', rfl, h', hb', hn'⟩; have hF' : From _ _ := From.step (by assumption) hb')
          | (go_at_call 70; refine (counting_mul (by repeat (first | with_reducible assumption | with_reducible exact Rd.drew (by assumption) | ((with_reducible apply Rd.up); (with_reducible assumption)))) (by repeat (first | with_reducible assumption | with_reducible exact Rd.drew (by assumption) | ((with_reducible apply Rd.up); (with_reducible assumption)))) (by omega) (by omega)).mono ?_; rintro e w' ⟨A', n', c', rfl, h', hb', hn'⟩; have hF' : From _ _ := From.step (by assumption) hb')
          | (go_at_call 71; refine (counting_same_yes (by repeat (first | with_reducible assumption | with_reducible exact Rd.drew (by assumption) | ((with_reducible apply Rd.up); (with_reducible assumption)))) (by repeat (first | with_reducible assumption | with_reducible exact Rd.drew (by assumption) | ((with_reducible apply Rd.up); (with_reducible assumption)))) (by simp only [val_limbs, Nat.add_zero, Nat.mul_one])).mono ?_; rintro e w' ⟨rfl, hb'⟩; have hF' : From _ _ := From.step (by assumption) hb')
          | (go_at_call 71; refine (counting_same (by repeat (first | with_reducible assumption | with_reducible exact Rd.drew (by assumption) | ((with_reducible apply Rd.up); (with_reducible assumption)))) (by repeat (first | with_reducible assumption | with_reducible exact Rd.drew (by assumption) | ((with_reducible apply Rd.up); (with_reducible assumption))))).mono ?_; rintro e w' ⟨rfl, hb'⟩; have hF' : From _ _ := From.step (by assumption) hb')
          | (go_at_call 66; refine (rsame_yes' (by repeat (first | with_reducible assumption | with_reducible exact Rd.drew (by assumption) | ((with_reducible apply Rd.up); (with_reducible assumption)))) (by repeat (first | with_reducible assumption | with_reducible exact Rd.drew (by assumption) | ((with_reducible apply Rd.up); (with_reducible assumption)))) (by simp only [val_limbs]; first | rfl | exact Nat.mul_add _ _ _ | exact (Nat.add_assoc _ _ _).symm | exact (Nat.mul_assoc _ _ _).symm)).mono ?_; rintro e w' ⟨rfl, hb'⟩; have hF' : From _ _ := From.step (by assumption) hb')
          | (go_at_call 62; refine (rcmp1 (by repeat (first | with_reducible assumption | with_reducible exact Rd.drew (by assumption) | ((with_reducible apply Rd.up); (with_reducible assumption)))) (by repeat (first | with_reducible assumption | with_reducible exact Rd.drew (by assumption) | ((with_reducible apply Rd.up); (with_reducible assumption))))).mono ?_; rintro e w' ⟨rfl, hb'⟩; have hF' : From _ _ := From.step (by assumption) hb'))
        go_wp2
        go_ret
        exact ⟨by rfl, below_step (From.out (by assumption)) hS2⟩
end Go.Proofs.Ytpfhohfcohkhnaa
