/- The walk of rows at nat. -/
import Derived.Test.YtjadgomakoaibaaNumM
namespace Go.Proofs.Ytjadgomakoaibaa
open Go.RowKit
theorem method_zero_nat (k : Nat) (w : World) : (method (k + 1) 39 (.agg #[]) "Zero").run Try.prog w = .ok (70, .agg #[]) w := by kernel_rfl
theorem Try.infoRownat : (Try.prog.info? 44).map (fun i => (i.zero, i.size, i.bytes)) = some (some (.slice none 0 0), 1, 24) := by kernel_rfl
theorem Try.infoNatV : (Try.prog.info? 37).map (fun i => (i.zero, i.size, i.bytes)) = some (some (.slice none 0 0), 1, 24) := by kernel_rfl
set_option maxHeartbeats 4000000 in
theorem rows_nat (w : World) (AW : Option Addr) (nW cW : Nat) (W : List Int) (AE : Option Addr) (nE cE : Nat) (hW : RdI w AW nW cW W) (hpos : ∀ i, i < W.length → 1 ≤ W.getD i 0 ∧ W.getD i 0 ≤ 65536) (hn : nW ≤ 65) :
    Calls Try.prog 33 #[.agg #[], .agg #[.slice AW nW cW, .slice AE nE cE]] w (RetGrid (natC 200) 0 44 37 1 (initR W (0 : Nat)) w) := by
  obtain ⟨W0, hW0⟩ : ∃ W0, W0 = (w.alloc (.cells #[] 39)).alloc (.cells #[.slice AW nW cW, .slice AE nE cE] 25) := ⟨_, rfl⟩
  have hS : Below w.heap.size w W0 := by rw [hW0]; exact ((Below.refl _ _).alloc (Nat.le_refl _) _).alloc (by simp) _
  have hc0 : W0.cell? ⟨w.heap.size + 1, 0, none⟩ = some (.slice AW nW cW) := by
    have h9 : W0.heap[w.heap.size + 1]? = some (.cells #[.slice AW nW cW, .slice AE nE cE] 25) := by
      have := heap_alloc_new (w.alloc (.cells #[] 39)) (.cells #[.slice AW nW cW, .slice AE nE cE] 25)
      rw [hW0]
      simpa using this
    rw [cell_of_row _ _ _ _ _ _ h9]; rfl
  have hz : w.heap.size + 1 < W0.heap.size := by rw [hW0]; simp
  have hW' := hW.below hS
  have h63 := hW.le63
  have HLEN := hide hW.len
  have HW := hide hW0
  have HC0 := hide hc0
  obtain ⟨i1, hi1, hz1, hz2, hz3⟩ := info_parts Try.infoRownat
  obtain ⟨i0, hy0, hy1, hy2, hy3⟩ := info_parts Try.infoNatV
  clear hW0 hW hc0
  go_enter Try.func33, Try.ntmps33
  go_upto_region 1 with (fail)
  rw [← HW.out]
  have hc0 := HC0.out
  go_wp2_with (at_make; refine wpList_make_row _ rfl _ _ _ 44 rfl i1 _ 1 24 Try.underlying31 hi1 hz1 hz2 hz3 _ _ _ _ nW rfl rfl rfl rfl (by omega) (by unfold maxLen; omega) ?_; intro w1 hown1 hb1; have hc1 := (hb1.cell (p := ⟨w.heap.size + 1, 0, none⟩) hz).trans HC0.out)
  clear hc1 hc0
  rw [madeCells_one (show (Value.slice none 0 0).cells = #[Value.slice none 0 0] from rfl)] at hown1
  have hgr := GridR.made (natC 200) 0 W0 W0.heap.size 44 37 1 nW hown1
  clear hown1
  go_loopw [6, 7, 15] (fun _ _ iv wr => ∃ (i : Nat) (vs : List Value), i ≤ nW ∧ iv = .int .i64 (i : Int) ∧ GridR (natC 200) 0 wr W0.heap.size 44 37 1 (some ⟨W0.heap.size, 0, none⟩) nW nW vs (rowsAt W (0 : Nat) i 0) ∧ Below W0.heap.size W0 wr) (fun _ _ iv _ => nW - (intOf iv).toNat)
  case atStart => exact ⟨0, _, Nat.zero_le _, rfl, by rw [rowsAt_zero, HLEN.out]; exact hgr, hb1⟩
  case round =>
    clear hgr hb1
    obtain ⟨i, vs, hi, rfl, hG, hS1⟩ := hrel
    by_cases hlt : i < nW
    · obtain ⟨b, off, rfl, hb, hcell⟩ := (hW'.below hS1).at hlt
      have hil : i < W.length := by rw [HLEN.out]; exact hlt
      obtain ⟨hp1, hp2⟩ := hpos i hil
      obtain ⟨q, hq⟩ : ∃ q : Nat, W.getD i 0 = (q : Int) := ⟨(W.getD i 0).toNat, by omega⟩
      have HQ := hide hq
      have hqm : q ≤ 65536 := by omega
      rw [hq] at hcell
      clear hq hp1 hp2
      obtain ⟨wo, rfl⟩ : ∃ wo : World, wo = wr := ⟨_, rfl⟩
      go_wp2_with fail
      go_loopw [21] (fun kv wr => ∃ (k : Nat) (vs : List Value), k ≤ q ∧ kv = .int .i64 (k : Int) ∧ GridR (natC 200) 0 wr W0.heap.size 44 37 1 (some ⟨W0.heap.size, 0, none⟩) nW nW vs (rowsAt W (0 : Nat) i k) ∧ Below W0.heap.size W0 wr) (fun kv _ => q - (intOf kv).toNat)
      case atStart => exact ⟨0, vs, Nat.zero_le _, rfl, hG, hS1⟩
      case round =>
        clear hcell hS1 hG hb
        obtain ⟨k, vs, hk, rfl, hG, hS1⟩ := hrel
        by_cases hltk : k < q
        · have hcr : ((rowsAt W (0 : Nat) i k).getD i []).length = k := by rw [rowsAt_row hil, if_neg (by omega), if_pos rfl, List.length_replicate]
          obtain ⟨rows, g1, g2, g3, g4⟩ := hG.ex
          obtain ⟨m, hm⟩ := g1.inner i hlt
          have HZ1 : Hid (W0.heap.size < wr.heap.size) := by
            obtain ⟨g, h8, _, h9⟩ := g1.blk (by omega)
            obtain rfl : W0.heap.size = g := by injection h8 with h7; injection h7
            exact h9
          obtain rfl : m = k := by have h1 := hm.1; have h2 := g3 i hlt; omega
          have hslot := g1.slot hlt
          have HSLOT := hide hslot
          have HG := hide hG
          have HG1 := hide g1
          have HG34 := hide (And.intro g3 g4)
          have HM := hide hm
          have HB := hide hS1
          have hwz := hide hS1.size
          have hVB0 := fun k9 (hk9 : (vs.getD i undef).ownBlock = some k9) => (hm.lt k9 hk9).1
          generalize hv0 : vs.getD i undef = v0 at *
          have HVB := hide hVB0
          clear hVB0
          have HV0 := hide hv0
          clear hv0 hcr g1 g3 g4 hG hm g2
          have hF : From wr wr := From.refl wr
          have hlz := hide (show W0.heap.size < wr.heap.size from HZ1.out)
          have hmZ := @method_zero_nat
          go_wp2_with fail
          have hcW := HSLOT.out
          go_region_law (first
            | (go_simp; go_at_call 70; (with_reducible refine (counting_zero _).mono ?_); rintro e w' ⟨A1, n1, c1, rfl, h1, hb', hn1⟩; have hF' : From wr w' := From.step (by repeat (first | with_reducible assumption | with_reducible apply From.drew | with_reducible apply From.also)) hb'; have hcw' := ((From.out hF').cell (p := ⟨W0.heap.size, i, none⟩) hlz.out).trans HSLOT.out; have hlw' : W0.heap.size < w'.heap.size := Nat.lt_of_lt_of_le hlz.out (From.out hF').size)
            | (refine step_append_lies _ (by rfl) _ _ _ (by rfl) W0.heap.size 37 i0 _ 1 24 Try.underlying44 hy0 hy1 hy2 hy3 (by rfl) (by omega) v0 m _ (by rfl) (ownsRow_keep HM.out (From.out (From.also hF' _)) (Nat.le_refl _)) _ 1 1 [.slice A1 n1 c1] (by rfl) rfl (World.news_of_block (heap_alloc_new _ _)) (by intro u hu; simp only [List.mem_singleton] at hu; subst hu; rfl) (by omega) (by unfold maxLen; omega) (by omega) (by have := HB.out.size; have := (From.out hF').size; simp; omega) _ rfl ?_; intro g cap w1 hown1 hgrow hat hlt1;
               have happ := (HG1.out.below (From.out (From.also hF' _))).appended hlt hown1 (by rw [HV0.out]; exact hgrow) (by rw [HV0.out]; exact hat);
               have hcell1 := happ.2.1; have hfr1 := happ.2.2; rw [HV0.out] at hcell1; clear happ))
          all_goals
            have hGA := (HG.out.below (From.out (From.also hF' (Obj.cells #[.slice A1 n1 c1] 37)))).appended hlt (HG1.out.below (From.out (From.also hF' (Obj.cells #[.slice A1 n1 c1] 37))))
              ⟨HG34.out.1, fun j k9 hj hk9 => (natC 200).last _ _ _ _ (From.out (From.also hF' _)) (HG34.out.2 j k9 hj hk9)⟩ (l := [(0 : Nat)]) rfl hown1 (by rw [HV0.out]; exact hgrow) (by rw [HV0.out]; exact hat)
              (fun j k9 v hj hk9 h9 w9 => by rw [rowsAt_all (by rw [HLEN.out]; exact hj) hk9] at h9 ⊢; exact natC_zero h9 _) (fun k9 hk9 w9 => by
                obtain rfl : k9 = 0 := by simpa using hk9
                exact natC_zero ⟨_, _, _, rfl, h1, by omega⟩ _)
            rw [rowsAt_more hil] at hGA
            have hBA := ((HB.out.trans ((From.out (From.also hF' (Obj.cells #[.slice A1 n1 c1] 37))).mono HB.out.size)).grown hgrow (by have := HB.out.size; have := (From.out hF').size; simp; omega) (fun k9 hk9 => HVB.out k9 hk9)).setCell (p := ⟨W0.heap.size, i, none⟩) (Nat.le_refl _) (.slice (some ⟨g, 0, none⟩) (m + 1) cap)
            clear hgrow hat hown1 hcell1 hfr1 hcw' hlw'
            go_wp2
            go_roundw
            case rel => exact ⟨m + 1, _, by omega, by go_num, hGA, hBA⟩
            case measure => simp [intOf]; omega
        · obtain rfl : k = q := by omega
          have HR : Hid (rowsAt W (0 : Nat) i k = rowsAt W (0 : Nat) (i + 1) 0) := by
            have := rowsAt_next (W := W) (z := (0 : Nat)) (i := i)
            rw [HQ.out] at this
            exact this
          go_wp2
          go_roundw
          case rel => exact ⟨i + 1, vs, by omega, by go_num, by rw [← HR.out]; exact hG, hS1⟩
          case measure => simp [intOf]; omega
    · obtain rfl : i = nW := by omega
      have HR : Hid (rowsAt W (0 : Nat) i 0 = initR W (0 : Nat)) := by
        have := rowsAt_end W ((0 : Nat))
        rw [HLEN.out] at this
        exact this
      go_wp2
      go_ret
      exact ⟨_, _, _, vs, rfl, by rw [← HR.out]; exact hG.lower hS.size, below_step hS1 hS⟩
end Go.Proofs.Ytjadgomakoaibaa
