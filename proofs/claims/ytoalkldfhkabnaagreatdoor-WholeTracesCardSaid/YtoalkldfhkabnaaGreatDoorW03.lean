/- Part of WholeTraces. -/
import Derived.Deep.QuietTactic
import Derived.BigQuiet
import Derived.Lib.QuoteBits
import Derived.Test.YtoalkldfhkabnaaGreatDoorW00
import Derived.Test.YtoalkldfhkabnaaGreatDoorW01
import Derived.Test.YtoalkldfhkabnaaGreatDoorW02
set_option linter.all false
set_option maxRecDepth 10000
set_option maxHeartbeats 16000000
namespace Go.Proofs.YtoalkldfhkabnaaGreatDoor
open Go.RowKit Fq
section
namespace Fq
structure FD where
 p : Nat
 m : Nat
 v : Nat
 x : Nat
namespace FD
variable (F : FD)
def q : Nat := F.p ^ (F.m + 1)
def add (a b : Nat) : Nat := padd F.p (F.m + 1) a b
def neg (a : Nat) : Nat := pneg F.p (F.m + 1) a
def mul (a b : Nat) : Nat := Fq.mul F.p F.m F.v a b
def pw (a : Nat) : Nat -> Nat
 | 0 => 1
 | n + 1 => F.mul (pw a n) a
def inv (a : Nat) : Nat := F.pw a (F.q - 2)
def fld : Fld := { q := F.q, add := F.add, mul := F.mul, neg := F.neg, inv := F.inv }
structure Ok : Prop where
 p2 : 2 <= F.p
 prime : ∀ d, 2 <= d -> d < F.p -> F.p % d ≠ 0
 q256 : F.q <= 256
 v0 : F.m = 0 -> F.v = 0
 vq : F.v < F.q
 xq : F.x < F.q
 ord : F.pw F.x (F.q - 1) = 1
 ord' : ∀ k, 0 < k -> k < F.q - 1 -> F.pw F.x k ≠ 1
 first : ∀ y, 0 < y -> y < F.x -> ¬ (F.pw y (F.q - 1) = 1 ∧ ∀ k, 0 < k -> k < F.q - 1 -> F.pw y k ≠ 1)
end FD
section
variable {F : FD} (h : F.Ok)
include h
namespace FD.Ok
theorem q2 : 2 <= F.q := by
 have h2 := h.p2
 have : F.p ^ 1 <= F.p ^ (F.m + 1) := qy (by omega) (by omega)
 unfold q
 rw [qbk] at this; omega
theorem p1 : 1 < F.p := h.p2
theorem p0 : 0 < F.p := by have := h.p2; omega
theorem add_lt (a b : Nat) : F.add a b < F.q := Np h.p0 _ _ _
theorem mul_lt (a b : Nat) : F.mul a b < F.q := Fq.mul_lt h.p1 _ _
theorem neg_lt (a : Nat) : F.neg a < F.q := dO h.p0 _ _
theorem pw_lt (a n : Nat) : F.pw a n < F.q := by
 cases n with
 | zero => have := h.q2; simp only [pw]; omega
 | succ n => exact h.mul_lt _ _
theorem mul_assoc {a b c : Nat} (ha : a < F.q) (hb : b < F.q) (hc : c < F.q) : F.mul (F.mul a b) c = F.mul a (F.mul b c) := Fq.mul_assoc h.p1 ha hb hc
theorem mul_comm {a b : Nat} (ha : a < F.q) (hb : b < F.q) : F.mul a b = F.mul b a := Fq.mul_comm h.p1 ha hb
theorem mul_one {a : Nat} (ha : a < F.q) : F.mul a 1 = a := Fq.mul_one h.p1 ha
theorem one_mul {a : Nat} (ha : a < F.q) : F.mul 1 a = a := Fq.one_mul h.p1 ha
theorem mul_zero (a : Nat) : F.mul a 0 = 0 := Fq.mul_zero h.p1 a
theorem zero_mul (a : Nat) : F.mul 0 a = 0 := Fq.zero_mul h.p1 a
theorem pw_add (a i : Nat) (ha : a < F.q) : ∀ j, F.pw a (i + j) = F.mul (F.pw a i) (F.pw a j)
 | 0 => (h.mul_one (h.pw_lt a i)).symm
 | j + 1 => by
  show F.mul (F.pw a (i + j)) a = F.mul (F.pw a i) (F.mul (F.pw a j) a); rw [pw_add a i ha j, h.mul_assoc (h.pw_lt _ _) (h.pw_lt _ _) ha]
theorem pw_one (n : Nat) : F.pw 1 n = 1 := by
 induction n with
 | zero => rfl
 | succ n ih => have := h.q2; simp only [pw]; rw [ih, h.mul_one (by omega)]
theorem pw_1 {a : Nat} (ha : a < F.q) : F.pw a 1 = a := h.one_mul ha
theorem pw_mul (a i : Nat) (ha : a < F.q) : ∀ j, F.pw a (i * j) = F.pw (F.pw a i) j
 | 0 => rfl
 | j + 1 => by
  rw [qco, h.pw_add a _ ha, pw_mul a i ha j]; rfl
theorem pw_mod (n : Nat) : F.pw F.x (n % (F.q - 1)) = F.pw F.x n := by
 conv => rhs; rw [<- qbn n (F.q - 1)]
 rw [h.pw_add _ _ h.xq, h.pw_mul _ _ h.xq, h.ord, h.pw_one, h.mul_one (h.pw_lt _ _)]
theorem pw_ne (n : Nat) : F.pw F.x n ≠ 0 := by
 intro e
 have h1 : F.pw F.x (n % (F.q - 1)) = 0 := by rw [h.pw_mod, e]
 have h2 : n % (F.q - 1) < F.q - 1 := qu _ (by have := h.q2; omega)
 have h3 := h.pw_add F.x (n % (F.q - 1)) h.xq (F.q - 1 - n % (F.q - 1))
 rw [show n % (F.q - 1) + (F.q - 1 - n % (F.q - 1)) = F.q - 1 by omega, h.ord, h1, h.zero_mul] at h3
 omega
theorem pw_inj {i j : Nat} (hi : i < F.q - 1) (hj : j < F.q - 1) (e : F.pw F.x i = F.pw F.x j) : i = j := by
 have key : ∀ {i j : Nat}, i < j -> j < F.q - 1 -> F.pw F.x i ≠ F.pw F.x j := by
  intro i j e0 hj e; have h1 := h.pw_add F.x i h.xq (F.q - 1 - i); have h2 := h.pw_add F.x j h.xq (F.q - 1 - i); rw [<- e, <- h1, show i + (F.q - 1 - i) = F.q - 1 by omega, h.ord, show j + (F.q - 1 - i) = (j - i) + (F.q - 1) by omega, h.pw_add _ _ h.xq, h.ord, h.mul_one (h.pw_lt _ _)] at h2; exact h.ord' (j - i) (by omega) (by omega) h2
 rcases Nat.lt_trichotomy i j with h1 | h1 | h1
 ·exact absurd e (key h1 hj)
 ·exact h1
 ·exact absurd e.symm (key h1 hi)
end FD.Ok
end
theorem Wr : ∀ (n : Nat) (l : NQ), l.Nodup -> (∀ x ∈ l, x < n) -> l.length <= n := by
 intro n
 induction n with
 | zero => intro l _ hl; cases l with | nil => simp | cons a l => exact absurd (hl a (by simp)) (by omega)
 | succ n ih =>
  intro l hd hl
  by_cases hn : n ∈ l
  ·have h1 : (l.erase n).length = l.length - 1 := List.length_erase_of_mem hn
   have := ih (l.erase n) (hd.erase n) fun y hy => by
    have a1 := hl y (List.mem_of_mem_erase hy); have a2 : y ≠ n := fun e => (List.Nodup.not_mem_erase hd) (e ▸ hy)
    omega
   omega
  ·have := ih l hd fun y hy => by
    have a1 := hl y hy; have a2 : y ≠ n := fun e => hn (e ▸ hy)
    omega
   omega
theorem Ra : ∀ (n : Nat) (l : NQ), l.Nodup -> (∀ x ∈ l, x < n) -> n <= l.length -> ∀ x, x < n -> x ∈ l
 | 0, _, _, _, _, x, hx => absurd hx (by omega)
 | n + 1, l, hd, hl, hlen, x, hx => by
  by_cases hn : n ∈ l
  ·have h1 : (l.erase n).length = l.length - 1 := List.length_erase_of_mem hn
   have c0 : (l.erase n).Nodup := hd.erase n; have b0 : ∀ y ∈ l.erase n, y < n := fun y hy => by
    have a1 := hl y (List.mem_of_mem_erase hy); have a2 : y ≠ n := fun e => (List.Nodup.not_mem_erase hd) (e ▸ hy)
    omega
   by_cases e : x = n
   ·rw [e]; exact hn
   ·exact List.mem_of_mem_erase (Ra n (l.erase n) c0 b0 (by omega) x (by omega))
  ·have b0 : ∀ y ∈ l, y < n := fun y hy => by
    have a1 := hl y hy; have a2 : y ≠ n := fun e => hn (e ▸ hy)
    omega
   have := Wr n l hd b0; omega
def FD.exps (F : FD) (x n : Nat) : NQ := (List.range n).map (F.pw x)
theorem FD.exps_get (F : FD) (x : Nat) {n i : Nat} (hi : i < n) : (F.exps x n).getD i 0 = F.pw x i := by
 simp [FD.exps, qa, hi]
theorem Je {f : Nat -> Nat} {n : Nat} (hf : ∀ i j, i < n -> j < n -> f i = f j -> i = j) : ((List.range n).map f).Nodup := by
 rw [List.nodup_iff_pairwise_ne, List.pairwise_map]
 refine List.Pairwise.imp_of_mem (R := fun a b => a ≠ b) (fun ha hb d0 e => d0 (hf _ _ (by simpa using ha) (by simpa using hb) e)) ?_
 exact List.nodup_iff_pairwise_ne.1 List.nodup_range
section
variable {F : FD} (h : F.Ok)
include h
theorem FD.Ok.log {a : Nat} (ha : a < F.q) (h0 : a ≠ 0) : ∃ i, i < F.q - 1 ∧ F.pw F.x i = a := by
 have hq := h.q2
 have hd : (0 :: F.exps F.x (F.q - 1)).Nodup := by
  refine qdf.2 ⟨fun hm => ?_, Je fun i j hi hj e => h.pw_inj hi hj e⟩; obtain ⟨i, _, e⟩ := qz.1 hm; exact h.pw_ne i e
 have := Ra F.q _ hd (fun y hy => by
  rcases qx.1 hy with rfl | hy
  ·omega
  ·obtain ⟨i, _, rfl⟩ := qz.1 hy
   exact h.pw_lt _ _) (by simp [FD.exps]; omega) a ha
 rcases qx.1 this with e | hm
 ·exact absurd e h0
 ·obtain ⟨i, hi, e⟩ := qz.1 hm
  exact ⟨i, by simpa using hi, e⟩
theorem FD.Ok.mul_inv {a : Nat} (ha : a < F.q) (h0 : a ≠ 0) : F.mul a (F.inv a) = 1 := by
 have hq := h.q2
 obtain ⟨i, hi, rfl⟩ := h.log ha h0
 unfold FD.inv
 have := h.pw_add (F.pw F.x i) 1 ha (F.q - 2)
 rw [h.pw_1 ha] at this
 rw [<- this, show 1 + (F.q - 2) = F.q - 1 by omega, <- h.pw_mul _ _ h.xq, qw, h.pw_mul _ _ h.xq, h.ord, h.pw_one]
theorem FD.Ok.inv_pw (i : Nat) (hi : i < F.q - 1) : F.pw F.x ((F.q - 1 - i) % (F.q - 1)) = F.inv (F.pw F.x i) := by
 have hq := h.q2
 have e1 := h.mul_inv (h.pw_lt F.x i) (h.pw_ne i)
 have e2 : F.mul (F.pw F.x i) (F.pw F.x (F.q - 1 - i)) = 1 := by
  rw [<- h.pw_add _ _ h.xq, show i + (F.q - 1 - i) = F.q - 1 by omega, h.ord]
 have hl := h.pw_lt F.x i
 have a0 : F.inv (F.pw F.x i) < F.q := h.pw_lt _ _
 rw [h.pw_mod]
 have e3 : F.mul (F.inv (F.pw F.x i)) (F.mul (F.pw F.x i) (F.pw F.x (F.q - 1 - i))) = F.inv (F.pw F.x i) := by rw [e2, h.mul_one a0]
 rw [<- h.mul_assoc a0 hl (h.pw_lt _ _), h.mul_comm a0 hl, e1, h.one_mul (h.pw_lt _ _)] at e3
 exact e3
theorem FD.Ok.fldOk : F.fld.Ok := by
 have hq := h.q2
 exact {
  q1 := by show 1 < F.q; omega
  addL := fun x y _ _ => h.add_lt x y
  mulL := fun x y _ _ => h.mul_lt x y
  negL := fun x _ => h.neg_lt x
  invL := fun x _ => h.pw_lt _ _
  addC := fun x y _ _ => Cj _ x y
  addA := fun x y z _ _ _ => Ee h.p0 _ x y z
  add0 := fun x hx => Dg h.p0 hx
  addN := fun x hx => Qh h.p0 _ x
  mulC := fun x y hx hy => h.mul_comm hx hy
  mulA := fun x y z hx hy hz => h.mul_assoc hx hy hz
  mul1 := fun x hx => h.mul_one hx
  mulD := fun x y z _ _ _ => Fq.mul_add h.p1 x y z
  mulI := fun x hx h0 => h.mul_inv hx h0 }
end
end Fq
end
def Bs (v : Value) (w : WQ) (e : Ending) (w' : WQ) : Prop := e = .returned v ∧ ∃ m, w' = w.drewN m
theorem Rd {P : Program} {f : FuncId} {args : Array Value} {w : WQ} {a n : Nat} {v : Value}
  (h : Calls P f args (w.drewN (a + n)) (Bs v (w.drewN (a + n)))) :
  Calls P f args (w.drewN (a + n)) fun e w'' => e = .returned v ∧ ∃ m, w'' = w.drewN (a + m) :=
 h.mono fun _ _ ⟨he, m, hm⟩ => ⟨he, n + m, by rw [hm, World.drewN_drewN, qay]⟩
theorem Fg {P : Program} {f : FuncId} {args : Array Value} {w : WQ} {n : Nat} {v : Value}
  (h : Calls P f args (w.drewN n) (Bs v (w.drewN n))) :
  Calls P f args (w.drewN n) fun e w'' => e = .returned v ∧ ∃ m, w'' = w.drewN m :=
 h.mono fun _ _ ⟨he, m, hm⟩ => ⟨he, n + m, by rw [hm, World.drewN_drewN]⟩
def modL (F : FD) : NQ := if F.m = 0 then [] else digs F.p (F.m + 1) F.v
def jZ (F : FD) (x : Nat) (lg : NQ) : Prop := lg.length = F.q ∧ ∀ i, i < F.q - 1 -> lg.getD (F.pw x i) 0 = i
structure GFat (w : WQ) (b : Nat) (F : FD) : Prop where
 ok : F.Ok
 lt : b < w.heap.size
 cp : w.cell? ⟨b, 0, none⟩ = some (nQ F.p)
 cm : w.cell? ⟨b, 1, none⟩ = some (.int .i64 ((F.m + 1 : Nat) : Int))
 cmod : ∃ A c, w.cell? ⟨b, 2, none⟩ = some (.slice A (modL F).length c) ∧ RdN w A (modL F).length c (modL F)
 cq : w.cell? ⟨b, 3, none⟩ = some (nQ F.q)
 cexp : ∃ A c, w.cell? ⟨b, 4, none⟩ = some (.slice A (F.q - 1) c) ∧ RdN w A (F.q - 1) c (F.exps F.x (F.q - 1))
 clog : ∃ A c lg, w.cell? ⟨b, 5, none⟩ = some (.slice A F.q c) ∧ RdN w A F.q c lg ∧ jZ F F.x lg
section
variable {w w' : WQ} {b : Nat} {F : FD}
theorem GFat.keep (h : GFat w b F) {B : Nat} (hb : Below B w w') (hB : w.heap.size <= B) : GFat w' b F := by
 have c : ∀ k, w'.cell? ⟨b, k, none⟩ = w.cell? ⟨b, k, none⟩ := fun k => hb.cell (p := ⟨b, k, none⟩) (qk h.lt hB)
 refine ⟨h.ok, qk h.lt hb.size, by rw [c]; exact h.cp, by rw [c]; exact h.cm, ?_, by rw [c]; exact h.cq, ?_, ?_⟩
 ·obtain ⟨A, c', h1, h2⟩ := h.cmod
  exact ⟨A, c', by rw [c]; exact h1, h2.keep hb hB⟩
 ·obtain ⟨A, c', h1, h2⟩ := h.cexp
  exact ⟨A, c', by rw [c]; exact h1, h2.keep hb hB⟩
 ·obtain ⟨A, c', lg, h1, h2, h3⟩ := h.clog
  exact ⟨A, c', lg, by rw [c]; exact h1, h2.keep hb hB, h3⟩
theorem GFat.below (h : GFat w b F) (hb : Below w.heap.size w w') : GFat w' b F := h.keep hb (qb _)
theorem GFat.drewN (h : GFat w b F) (n : Nat) : GFat (w.drewN n) b F := h.below (Ae (bR) n)
theorem GFat.bd (h : GFat w b F) : 2 <= F.q ∧ F.q <= 256 ∧ 2 <= F.p ∧ F.p <= F.q ∧ F.m < 8 := by
 have h2 := h.ok.q2
 have h3 := h.ok.p2
 have h4 := h.ok.q256
 have h5 : F.p ^ 1 <= F.p ^ (F.m + 1) := qy (by omega) (by omega)
 have h6 : 2 ^ (F.m + 1) <= F.p ^ (F.m + 1) := qbi h3 _
 have h7 : F.m < 8 := by
  rcases Nq F.m 8 with h8 | h8
  ·exact h8
  ·have : 2 ^ 9 <= 2 ^ (F.m + 1) := qy (by omega) (by omega)
   unfold FD.q at h4; omega
 unfold FD.q at *
 rw [qbk] at h5
 exact ⟨h2, h4, h3, h5, h7⟩
end
theorem mH (w : WQ) (b : Nat) (F : FD) (hG : GFat w b F) (x : Nat) (hx : x < F.q) : cQ 181 #[pQ b, iv x] w (Ba (.bool true) w) := by
 obtain ⟨_, hq, _⟩ := hG.bd
 have h3 := hG.cq
 have a0 : (x : Int) < (F.q : Int) := by omega
 unfold iv
 go_enter Tryz.func181, Tryz.ntmps181
 go_wp2
 go_ret
 exact ⟨rfl, rfl⟩
theorem Ka (w : WQ) (b : Nat) (F : FD) (hG : GFat w b F) (x : Nat) (hx : x < F.q) : cQ 124 #[pQ b, iv x] w (Ba (iv x) w) := by
 have hc := mH w b F hG x hx
 go_enter Tryz.func124, Tryz.ntmps124
 go_wp2_with (go_at_call 181; refine hc.mono ?_; rintro e w' ⟨rfl, rfl⟩)
 go_ret
 exact ⟨rfl, rfl⟩
theorem Ir (w : WQ) (b : Nat) (F : FD) (hG : GFat w b F) : cQ 109 #[pQ b] w (Ba (iv F.q) w) := by
 have h3 := hG.cq
 unfold iv
 go_enter Tryz.func109, Tryz.ntmps109
 go_wp2
 go_ret
 exact ⟨rfl, rfl⟩
theorem Cg (a b : Nat) : Int.tmod (a : Int) (b : Int) = ((a % b : Nat) : Int) := rfl
theorem Ku (a b : Nat) : Int.tdiv (a : Int) (b : Int) = ((a / b : Nat) : Int) := rfl
theorem Ay {a : Nat} (h : a <= 9223372036854775807) : IntKind.i64.wrap (a : Int) = (a : Int) := qbz _ ⟨by omega, by omega⟩
theorem Et {a b : Nat} (ha : a <= 1000000) (hb : b <= 1000000) : a * b <= 1000000000000 := qbx ha hb
theorem Rh {p : Nat} (hp : 0 < p) : ∀ n, pneg p n 0 = 0
 | 0 => rfl
 | n + 1 => by simp [pneg, Rh hp n]
theorem Tn (w : WQ) (b : Nat) (F : FD) (hG : GFat w b F) (x : Nat) (hx : x < F.q) : cQ 66 #[pQ b, iv x] w (Bs (iv (F.neg x)) w) := by
 obtain ⟨r0, hq, m0, q0, j0⟩ := hG.bd
 have hc := Ka w b F hG x hx
 have i0 := hG.cp
 have a0 : 0 < F.p := by omega
 have H0 : Hid (x < F.p ^ (F.m + 1)) := sK hx
 have HR : Hid (F.neg x < F.q) := sK (hG.ok.neg_lt x)
 have e0 := fun n => (hG.drewN n).cp
 clear hx
 generalize hnn : F.neg x = NX at *
 have HN : Hid (pneg F.p (F.m + 1) x = NX) := sK hnn
 clear hnn
 unfold iv
 go_enter Tryz.func66, Tryz.ntmps66
 go_wp2_with (go_at_call 124; refine hc.mono ?_; rintro e w' ⟨rfl, rfl⟩)
 clear hc
 go_loopw [1, 5, 6] (fun xv ov pv wr => ∃ n y out pl k : Nat, xv = nQ y ∧ ov = nQ out ∧ pv = nQ pl ∧ wr = w.drewN k ∧
   Hid (y < F.p ^ n ∧ pl * F.p ^ n = F.q ∧ out + pl * pneg F.p n y = NX) ∧ pl <= F.q ∧ out < F.q ∧ y < 1000000) (fun xv _ _ _ => (intOf xv).toNat)
 case atStart =>
  have h1 := H0.out; have h2 : x < F.q := h1; have h3 := HN.out; exact ⟨F.m + 1, x, 0, 1, 0, rfl, rfl, rfl, rfl, sK ⟨h1, by rw [qbv]; rfl, by rw [Zq, qbv, h3]⟩, by omega, by omega, by omega⟩
 case round =>
  obtain ⟨n, y, out, pl, k, rfl, rfl, rfl, rfl, HI, o0, l0, hy⟩ := hrel; have h0 := e0 k
  rcases Xq y with rfl | hy0
  ·have he : out = NX := by
    have := HI.out.2.2
    rwa [Rh a0, qce, qcd] at this
   subst he; clear HI HN; go_wp2; go_ret; exact ⟨rfl, k, rfl⟩
  ·cases n with
   | zero => have := HI.out.1; simp at this; omega
   | succ n =>
    have b0 := Bw a0 HI.out.1; have h2 : pl * F.p * F.p ^ n = F.q := by rw [qbt, qw F.p, <- qr]; exact HI.out.2.1
    have h3 : out + (F.p - y % F.p) % F.p * pl + pl * F.p * pneg F.p n (y / F.p) = NX := by
     rw [<- HI.out.2.2, pneg, qcy, qbt, qw _ pl, qay]
    have h4 : pl * F.p <= F.q := by
     have h5 : pl * F.p * 1 <= pl * F.p * F.p ^ n := qbg _ (qbd a0); omega
    have w0 : y / F.p < y := Nat.div_lt_self hy0 (by omega); have c0 : Hid (y / F.p < F.p ^ n ∧ pl * F.p * F.p ^ n = F.q ∧ out + (F.p - y % F.p) % F.p * pl + pl * F.p * pneg F.p n (y / F.p) = NX) := sK ⟨b0, h2, h3⟩; have t0 : y % F.p < F.p := qu _ a0; have e1 := Cg y F.p; have e5 := Ku y F.p; have ho : out + (F.p - y % F.p) % F.p * pl < F.q := by have := HR.out; omega
    clear HI b0 h2 h3 HR; generalize y % F.p = r1 at *; generalize y / F.p = y2 at *; have e2 : IntKind.i64.wrap ((F.p : Int) - (r1 : Int)) = ((F.p - r1 : Nat) : Int) := by rw [show (F.p : Int) - (r1 : Int) = ((F.p - r1 : Nat) : Int) by omega]; exact Ay (by omega)
    have e3 := Cg (F.p - r1) F.p; have f0 : (F.p - r1) % F.p < F.p := qu _ a0; generalize (F.p - r1) % F.p = r3 at *; have d0 := Et (a := r3) (b := pl) (by omega) (by omega); have e4 : IntKind.i64.wrap ((r3 : Int) * (pl : Int)) = ((r3 * pl : Nat) : Int) := by rw [<- Yq]; exact Ay (by omega)
    generalize r3 * pl = r4 at *; have e6 : IntKind.i64.wrap ((out : Int) + (r4 : Int)) = ((out + r4 : Nat) : Int) := by rw [<- qal]; exact Ay (by omega)
    generalize out + r4 = r5 at *; have g0 := Et (a := pl) (b := F.p) (by omega) (by omega); have e7 : (pl : Int) * (F.p : Int) = ((pl * F.p : Nat) : Int) := by rw [Yq]
    generalize pl * F.p = r6 at *; have n0 : 2 <= (F.p : Int) := by omega
    have v0 : 0 < (y : Int) := by omega
    clear f0 d0; go_wp2; go_quiet (fail); go_wp2; go_roundw
    case rel => exact ⟨n, y2, r5, r6, _, by go_num, by go_num, by go_num, rfl, c0, by omega, by omega, by omega⟩
    case measure => simp [intOf]; omega
theorem oD {x y : Nat} (hx : x < 4294967296) (hy : y < 4294967296) : bits .xor .i64 (x : Int) (y : Int) = ((x ^^^ y : Nat) : Int) := by
 have h1 : x ^^^ y < 2 ^ 32 := Nat.xor_lt_two_pow hx hy
 show IntKind.i64.wrap ((BitVec.ofInt 64 (x : Int) ^^^ BitVec.ofInt 64 (y : Int)).toNat : Int) = _
 rw [BitVec.toNat_xor, ofInt_u64 x (by omega), ofInt_u64 y (by omega)]
 exact Lib.wrap_i64_small _ (by omega)
theorem oO (w : WQ) (b : Nat) (F : FD) (hG : GFat w b F) (h2 : F.p = 2) (x y : Nat) (hx : x < F.q) (hy : y < F.q) : cQ 115 #[pQ b, iv x, iv y] w (Bs (iv (F.add x y)) w) := by
 obtain ⟨w0, hq, t0, v0, r0⟩ := hG.bd
 have f0 := Ka w b F hG x hx
 have b0 := Ka w b F hG y hy
 have i0 := hG.cp
 rw [h2] at i0
 have a1 := oD (x := x) (y := y) (by omega) (by omega)
 have he : F.add x y = x ^^^ y := by
  unfold FD.add; unfold FD.q at hx hy; rw [h2] at hx hy ⊢; exact Vo _ _ _ hx hy
 rw [he]
 clear he
 generalize x ^^^ y = z at *
 unfold iv at *
 go_enter Tryz.func115, Tryz.ntmps115
 go_wp2_with (first | (go_at_call 124; ((with_reducible refine f0.mono ?_); rintro e w' ⟨rfl, rfl⟩)) | (go_at_call 124; ((with_reducible refine b0.mono ?_); rintro e w' ⟨rfl, rfl⟩)))
 go_ret
 exact ⟨rfl, 0, rfl⟩
theorem pV (w : WQ) (b : Nat) (F : FD) (hG : GFat w b F) (h2 : F.p ≠ 2) (x x' : Nat) (hx : x < F.q) (hx' : x' < F.q) : cQ 115 #[pQ b, iv x, iv x'] w (Bs (iv (F.add x x')) w) := by
 obtain ⟨w0, hq, t0, v0, r0⟩ := hG.bd
 have f0 := Ka w b F hG x hx
 have b0 := Ka w b F hG x' hx'
 have i0 := hG.cp
 have a0 : 0 < F.p := by omega
 have d1 : 2 < (F.p : Int) := by omega
 have f1 : ((F.p : Int) == 2) = false := by rw [beq_eq_false_iff_ne]; omega
 clear h2
 have H0 : Hid (x < F.p ^ (F.m + 1) ∧ x' < F.p ^ (F.m + 1)) := sK ⟨hx, hx'⟩
 have HR : Hid (F.add x x' < F.q) := sK (hG.ok.add_lt x x')
 have q0 := fun n => (hG.drewN n).cp
 have j1 : x < 1000000 := by omega
 have k1 : x' < 1000000 := by omega
 clear hx hx'
 generalize hnn : F.add x x' = NX at *
 have HN : Hid (padd F.p (F.m + 1) x x' = NX) := sK hnn
 clear hnn
 unfold iv at *
 go_enter Tryz.func115, Tryz.ntmps115
 go_wp2_with (first | (go_at_call 124; ((with_reducible refine f0.mono ?_); rintro e w' ⟨rfl, rfl⟩)) | (go_at_call 124; ((with_reducible refine b0.mono ?_); rintro e w' ⟨rfl, rfl⟩)))
 clear f0 b0
 go_loopw [1, 2, 7, 8] (fun xv yv ov pv wr => ∃ n y y' out pl k : Nat, xv = nQ y ∧ yv = nQ y' ∧ ov = nQ out ∧ pv = nQ pl ∧ wr = w.drewN k ∧
   Hid (y < F.p ^ n ∧ y' < F.p ^ n ∧ pl * F.p ^ n = F.q ∧ out + pl * padd F.p n y y' = NX) ∧ pl <= F.q ∧ out < F.q ∧ y < 1000000 ∧ y' < 1000000) (fun xv yv _ _ _ => (intOf xv).toNat + (intOf yv).toNat)
 case atStart =>
  have h1 := H0.out; have h3 := HN.out; exact ⟨F.m + 1, x, x', 0, 1, 0, rfl, rfl, rfl, rfl, rfl, sK ⟨h1.1, h1.2, by rw [qbv]; rfl, by rw [Zq, qbv, h3]⟩, by omega, by omega, by omega, by omega⟩
 case round =>
  obtain ⟨n, y, y', out, pl, k, rfl, rfl, rfl, rfl, rfl, HI, g1, c1, hy, l1⟩ := hrel; have b1 := q0 k
  by_cases hz : y = 0 ∧ y' = 0
  ·obtain ⟨rfl, rfl⟩ := hz
   have he : out = NX := by
    have := HI.out.2.2.2
    rwa [Tl, qce, qcd] at this
   subst he; clear HI HN; go_wp2; go_ret; exact ⟨rfl, k, rfl⟩
  ·cases n with
   | zero => have := HI.out; simp at this; omega
   | succ n =>
    rcases Xq y with rfl | hy0
    ·have c0 := Bw a0 HI.out.1
     have d0 := Bw a0 HI.out.2.1; have h2 : pl * F.p * F.p ^ n = F.q := by rw [qbt, qw F.p, <- qr]; exact HI.out.2.2.1
     have h3 : out + (0 % F.p + y' % F.p) % F.p * pl + pl * F.p * padd F.p n (0 / F.p) (y' / F.p) = NX := by
      rw [<- HI.out.2.2.2, padd, qcy, qbt, qw _ pl, qay]
     have h4 : pl * F.p <= F.q := by
      have h5 : pl * F.p * 1 <= pl * F.p * F.p ^ n := qbg _ (qbd a0); omega
     have l0 : 0 / F.p <= 0 := qaf _ _; have z0 : y' / F.p <= y' := qaf _ _; have j0 : 0 / F.p + y' / F.p < 0 + y' := by
      have : y' / F.p < y' := Nat.div_lt_self (by omega) (by omega); simp; omega
     have e0 : Hid (0 / F.p < F.p ^ n ∧ y' / F.p < F.p ^ n ∧ pl * F.p * F.p ^ n = F.q ∧ out + (0 % F.p + y' % F.p) % F.p * pl + pl * F.p * padd F.p n (0 / F.p) (y' / F.p) = NX) := sK ⟨c0, d0, h2, h3⟩; have x0 : y' % F.p < F.p := qu _ a0; have m0 := Cg y' F.p; have n0 := Ku y' F.p; have ho : out + (0 % F.p + y' % F.p) % F.p * pl < F.q := by have := HR.out; omega
     simp only [qcc, Zq, Nat.zero_div] at e0 ho l0 j0; clear HI c0 d0 h2 h3 HR; generalize y' % F.p = r1' at *; generalize y' / F.p = y2' at *; have e2 : IntKind.i64.wrap (r1' : Int) = (r1' : Int) := Ay (by omega); have e3 := Cg r1' F.p; have h0 : r1' % F.p < F.p := qu _ a0; generalize r1' % F.p = r3 at *; have g0 := Et (a := r3) (b := pl) (by omega) (by omega); have e4 : IntKind.i64.wrap ((r3 : Int) * (pl : Int)) = ((r3 * pl : Nat) : Int) := by rw [<- Yq]; exact Ay (by omega)
     generalize r3 * pl = r4 at *; have e6 : IntKind.i64.wrap ((out : Int) + (r4 : Int)) = ((out + r4 : Nat) : Int) := by rw [<- qal]; exact Ay (by omega)
     generalize out + r4 = r5 at *; have o0 := Et (a := pl) (b := F.p) (by omega) (by omega); have e7 : (pl : Int) * (F.p : Int) = ((pl * F.p : Nat) : Int) := by rw [Yq]
     generalize pl * F.p = r6 at *; clear h0 g0; have y0 : 0 < (y' : Int) := by omega
     clear hz; go_wp2; go_quiet (fail); go_wp2; go_roundw
     case rel => exact ⟨n, 0, y2', r5, r6, _, by go_num, by go_num, by go_num, by go_num, rfl, e0, by omega, by omega, by omega, by omega⟩
     case measure => simp [intOf]; omega
    ·have c0 := Bw a0 HI.out.1
     have d0 := Bw a0 HI.out.2.1; have h2 : pl * F.p * F.p ^ n = F.q := by rw [qbt, qw F.p, <- qr]; exact HI.out.2.2.1
     have h3 : out + (y % F.p + y' % F.p) % F.p * pl + pl * F.p * padd F.p n (y / F.p) (y' / F.p) = NX := by
      rw [<- HI.out.2.2.2, padd, qcy, qbt, qw _ pl, qay]
     have h4 : pl * F.p <= F.q := by
      have h5 : pl * F.p * 1 <= pl * F.p * F.p ^ n := qbg _ (qbd a0); omega
     have l0 : y / F.p <= y := qaf _ _; have z0 : y' / F.p <= y' := qaf _ _; have j0 : y / F.p + y' / F.p < y + y' := by
      rcases Xq y with h5 | h5
      ·have : y' / F.p < y' := Nat.div_lt_self (by omega) (by omega)
       omega
      ·have : y / F.p < y := Nat.div_lt_self h5 (by omega)
       omega
     have e0 : Hid (y / F.p < F.p ^ n ∧ y' / F.p < F.p ^ n ∧ pl * F.p * F.p ^ n = F.q ∧ out + (y % F.p + y' % F.p) % F.p * pl + pl * F.p * padd F.p n (y / F.p) (y' / F.p) = NX) := sK ⟨c0, d0, h2, h3⟩; have i1 : y % F.p < F.p := qu _ a0; have x0 : y' % F.p < F.p := qu _ a0; have e1 := Cg y F.p; have m0 := Cg y' F.p; have e5 := Ku y F.p; have n0 := Ku y' F.p; have ho : out + (y % F.p + y' % F.p) % F.p * pl < F.q := by have := HR.out; omega
     clear HI c0 d0 h2 h3 HR; generalize y % F.p = r1 at *; generalize y' % F.p = r1' at *; generalize y / F.p = y2 at *; generalize y' / F.p = y2' at *; have e2 : IntKind.i64.wrap ((r1 : Int) + (r1' : Int)) = ((r1 + r1' : Nat) : Int) := by rw [<- qal]; exact Ay (by omega)
     have e3 := Cg (r1 + r1') F.p; have h0 : (r1 + r1') % F.p < F.p := qu _ a0; generalize (r1 + r1') % F.p = r3 at *; generalize r1 + r1' = r9 at *; have g0 := Et (a := r3) (b := pl) (by omega) (by omega); have e4 : IntKind.i64.wrap ((r3 : Int) * (pl : Int)) = ((r3 * pl : Nat) : Int) := by rw [<- Yq]; exact Ay (by omega)
     generalize r3 * pl = r4 at *; have e6 : IntKind.i64.wrap ((out : Int) + (r4 : Int)) = ((out + r4 : Nat) : Int) := by rw [<- qal]; exact Ay (by omega)
     generalize out + r4 = r5 at *; have o0 := Et (a := pl) (b := F.p) (by omega) (by omega); have e7 : (pl : Int) * (F.p : Int) = ((pl * F.p : Nat) : Int) := by rw [Yq]
     generalize pl * F.p = r6 at *; clear h0 g0; have y0 : 0 < (y : Int) := by omega
     clear hz; go_wp2; go_quiet (fail); go_wp2; go_roundw
     case rel => exact ⟨n, y2, y2', r5, r6, _, by go_num, by go_num, by go_num, by go_num, rfl, e0, by omega, by omega, by omega, by omega⟩
     case measure => simp [intOf]; omega
theorem Hh (w : WQ) (b : Nat) (F : FD) (hG : GFat w b F) (x y : Nat) (hx : x < F.q) (hy : y < F.q) : cQ 115 #[pQ b, iv x, iv y] w (Bs (iv (F.add x y)) w) := by
 by_cases h : F.p = 2
 ·exact oO w b F hG h x y hx hy
 ·exact pV w b F hG h x y hx hy
theorem Yb (w : WQ) (b : Nat) (F : FD) (hG : GFat w b F) (x y : Nat) (hx : x < F.q) (hy : y < F.q) : cQ 330 #[pQ b, iv x, iv y] w (Bs (iv (F.add x (F.neg y))) w) := by
 have hc := Tn w b F hG y hy
 have b0 := fun n => Hh (w.drewN n) b F (hG.drewN n) x (F.neg y) hx (hG.ok.neg_lt y)
 generalize F.add x (F.neg y) = z at *
 generalize F.neg y = y' at *
 unfold iv at *
 go_enter Tryz.func330, Tryz.ntmps330
 go_wp2_with (first | (go_at_call 66; refine hc.mono ?_; rintro e w' ⟨rfl, n1, rfl⟩) | (go_at_call 115; refine (b0 _).mono ?_; rintro e w' ⟨rfl, n2, rfl⟩))
 go_ret
 exact ⟨rfl, _, rfl⟩
theorem GFat.logAt {w : WQ} {b : Nat} {F : FD} (hG : GFat w b F) {x : Nat} (hx : x < F.q) (h0 : x ≠ 0) : ∃ i, i < F.q - 1 ∧ F.pw F.x i = x ∧
  ∀ A c lg, RdN w A F.q c lg -> jZ F F.x lg -> lg.getD x 0 = i := by
 obtain ⟨i, hi, e⟩ := hG.ok.log hx h0
 exact ⟨i, hi, e, fun A c lg _ h => by rw [<- e]; exact h.2 i hi⟩
theorem Fy (w : WQ) (b : Nat) (F : FD) (hG : GFat w b F) (x y : Nat) (hx : x < F.q) (hy : y < F.q) : cQ 108 #[pQ b, iv x, iv y] w (Bs (iv (F.mul x y)) w) := by
 obtain ⟨e1, hq, a1, b1, z0⟩ := hG.bd
 have g0 := Ka w b F hG x hx
 have n0 := Ka w b F hG y hy
 unfold iv at *
 by_cases h0 : x = 0 ∨ y = 0
 ·have he : F.mul x y = 0 := by
   rcases h0 with rfl | rfl
   ·exact hG.ok.zero_mul y
   ·exact hG.ok.mul_zero x
  rw [he]; clear he
  by_cases b0 : x = 0
  ·have m0 : ((x : Int) == 0) = true := by simp [b0]
   clear h0 b0; go_enter Tryz.func108, Tryz.ntmps108; go_wp2_with (first | (go_at_call 124; ((with_reducible refine g0.mono ?_); rintro e w' ⟨rfl, rfl⟩)) | (go_at_call 124; ((with_reducible refine n0.mono ?_); rintro e w' ⟨rfl, rfl⟩))); go_ret; exact ⟨rfl, 0, rfl⟩
  ·have m0 : ((x : Int) == 0) = false := by rw [beq_eq_false_iff_ne]; omega
   have h1 : ((y : Int) == 0) = true := by rw [beq_iff_eq]; omega
   clear h0 b0; go_enter Tryz.func108, Tryz.ntmps108; go_wp2_with (first | (go_at_call 124; ((with_reducible refine g0.mono ?_); rintro e w' ⟨rfl, rfl⟩)) | (go_at_call 124; ((with_reducible refine n0.mono ?_); rintro e w' ⟨rfl, rfl⟩))); go_ret; exact ⟨rfl, 0, rfl⟩
 ·obtain ⟨b0, f1⟩ : x ≠ 0 ∧ y ≠ 0 := by omega
  obtain ⟨i, hi, ei, j0⟩ := hG.logAt hx b0; obtain ⟨j, hj, ej, y0⟩ := hG.logAt hy f1; obtain ⟨AL, cL, lg, x0, a0, f0⟩ := hG.clog; obtain ⟨AE, cE, w0, c0⟩ := hG.cexp; have v0 := hG.cq; have i0 := qu (i + j) (show 0 < F.q - 1 by omega); have l0 : F.pw F.x ((i + j) % (F.q - 1)) = F.mul x y := by rw [hG.ok.pw_mod, hG.ok.pw_add _ _ hG.ok.xq, ei, ej]
  have e0 := a0.at hx; have o0 := a0.at hy; have d0 := c0.at i0; have r0 := a0.le63; have q0 := c0.le63; rw [j0 AL cL lg a0 f0] at e0; rw [y0 AL cL lg a0 f0] at o0; rw [F.exps_get _ i0, l0] at d0; obtain ⟨bL, oL, rfl, _, e0⟩ := e0; obtain ⟨_, _, t0, _, o0⟩ := o0; simp only [qc, qd, and_true] at t0; obtain ⟨rfl, rfl⟩ := t0; obtain ⟨bE, oE, rfl, _, d0⟩ := d0; have e2 : IntKind.i64.wrap ((i : Int) + (j : Int)) = ((i + j : Nat) : Int) := by rw [<- qal]; exact Ay (by omega)
  have e3 : IntKind.i64.wrap ((F.q : Int) - 1) = ((F.q - 1 : Nat) : Int) := by rw [show (F.q : Int) - 1 = ((F.q - 1 : Nat) : Int) by omega]; exact Ay (by omega)
  have e4 := Cg (i + j) (F.q - 1); have d1 : 1 <= ((F.q - 1 : Nat) : Int) := by omega
  clear l0 f0 j0 y0 ei ej a0 c0; generalize (i + j) % (F.q - 1) = k at *; generalize i + j = ij at *; generalize F.q - 1 = q1 at *; generalize F.mul x y = z at *; have m0 : ((x : Int) == 0) = false := by rw [beq_eq_false_iff_ne]; omega
  have h1 : ((y : Int) == 0) = false := by rw [beq_eq_false_iff_ne]; omega
  clear b0 f1 h0; go_enter Tryz.func108, Tryz.ntmps108; go_wp2_with (first | (go_at_call 124; ((with_reducible refine g0.mono ?_); rintro e w' ⟨rfl, rfl⟩)) | (go_at_call 124; ((with_reducible refine n0.mono ?_); rintro e w' ⟨rfl, rfl⟩))); go_quiet (fail); go_wp2; go_ret; exact ⟨rfl, _, rfl⟩
theorem Pc (w : WQ) (b : Nat) (F : FD) (hG : GFat w b F) (x : Nat) (hx : x < F.q) (b0 : x ≠ 0) : cQ 177 #[pQ b, iv x] w (Bs (.tuple #[iv (F.inv x), iv 0]) w) := by
 obtain ⟨e1, hq, a1, b1, z0⟩ := hG.bd
 have g0 := Ka w b F hG x hx
 unfold iv at *
 obtain ⟨i, hi, ei, j0⟩ := hG.logAt hx b0
 obtain ⟨AL, cL, lg, x0, a0, f0⟩ := hG.clog
 obtain ⟨AE, cE, w0, c0⟩ := hG.cexp
 have v0 := hG.cq
 have i0 := qu (F.q - 1 - i) (show 0 < F.q - 1 by omega)
 have l0 : F.pw F.x ((F.q - 1 - i) % (F.q - 1)) = F.inv x := by rw [hG.ok.inv_pw i hi, ei]
 have e0 := a0.at hx
 have d0 := c0.at i0
 have r0 := a0.le63
 have q0 := c0.le63
 rw [j0 AL cL lg a0 f0] at e0
 rw [F.exps_get _ i0, l0] at d0
 obtain ⟨bL, oL, rfl, _, e0⟩ := e0
 obtain ⟨bE, oE, rfl, _, d0⟩ := d0
 have e3 : IntKind.i64.wrap ((F.q : Int) - 1) = ((F.q - 1 : Nat) : Int) := by rw [show (F.q : Int) - 1 = ((F.q - 1 : Nat) : Int) by omega]; exact Ay (by omega)
 have e2 : IntKind.i64.wrap (((F.q - 1 : Nat) : Int) - (i : Int)) = ((F.q - 1 - i : Nat) : Int) := by rw [show ((F.q - 1 : Nat) : Int) - (i : Int) = ((F.q - 1 - i : Nat) : Int) by omega]; exact Ay (by omega)
 have e4 := Cg (F.q - 1 - i) (F.q - 1)
 have d1 : 1 <= ((F.q - 1 : Nat) : Int) := by omega
 have m0 : ((x : Int) == 0) = false := by rw [beq_eq_false_iff_ne]; omega
 clear l0 f0 j0 ei a0 c0
 generalize (F.q - 1 - i) % (F.q - 1) = k at *
 generalize F.q - 1 - i = ij at *
 generalize F.q - 1 = q1 at *
 generalize F.inv x = z at *
 clear b0
 go_enter Tryz.func177, Tryz.ntmps177
 go_wp2_with (go_at_call 124; ((with_reducible refine g0.mono ?_); rintro e w' ⟨rfl, rfl⟩))
 go_quiet (fail)
 go_wp2
 go_ret2
 exact ⟨rfl, _, rfl⟩
theorem Fq.FD.Ok.pw_zero {F : FD} (h : F.Ok) {n : Nat} (hn : n ≠ 0) : F.pw 0 n = 0 := by
 cases n with
 | zero => exact absurd rfl hn
 | succ n => exact h.mul_zero _
theorem rC (w : WQ) (b : Nat) (F : FD) (hG : GFat w b F) (x n : Nat) (hx : x < F.q) (hn0 : 1 <= n) (hn : n <= 256) : cQ 170 #[pQ b, iv x, iv n] w (Bs (.tuple #[iv (F.pw x n), iv 0]) w) := by
 obtain ⟨e1, hq, a1, b1, z0⟩ := hG.bd
 have g0 := Ka w b F hG x hx
 have j1 : ((n : Int) == 0) = false := by rw [beq_eq_false_iff_ne]; omega
 have k1 : decide ((n : Int) < 0) = false := by simp
 unfold iv at *
 by_cases b0 : x = 0
 ·have he : F.pw x n = 0 := by rw [b0]; exact hG.ok.pw_zero (by omega)
  rw [he]; have m0 : ((x : Int) == 0) = true := by simp [b0]
  clear b0 he; go_enter Tryz.func170, Tryz.ntmps170; go_wp2_with (go_at_call 124; ((with_reducible refine g0.mono ?_); rintro e w' ⟨rfl, rfl⟩)); go_ret2; exact ⟨rfl, 0, rfl⟩
 ·obtain ⟨i, hi, ei, j0⟩ := hG.logAt hx b0
  obtain ⟨AL, cL, lg, x0, a0, f0⟩ := hG.clog; obtain ⟨AE, cE, w0, c0⟩ := hG.cexp; have v0 := hG.cq; have c1 : 0 < F.q - 1 := by omega
  have l1 := qu n c1; have i0 := qu (i * (n % (F.q - 1))) c1; have l0 : F.pw F.x (i * (n % (F.q - 1)) % (F.q - 1)) = F.pw x n := by
   have hf : F.pw (F.pw F.x i) (F.q - 1) = 1 := by rw [<- hG.ok.pw_mul _ _ hG.ok.xq, qw, hG.ok.pw_mul _ _ hG.ok.xq, hG.ok.ord, hG.ok.pw_one]
   rw [hG.ok.pw_mod, <- ei]
   conv => rhs; rw [<- qbn n (F.q - 1)]
   rw [hG.ok.pw_add _ _ (hG.ok.pw_lt _ _), hG.ok.pw_mul _ _ hG.ok.xq, hG.ok.pw_mul _ _ (hG.ok.pw_lt _ _), hf, hG.ok.pw_one, hG.ok.mul_one (hG.ok.pw_lt _ _)]
  have e0 := a0.at hx; have d0 := c0.at i0; have r0 := a0.le63; have q0 := c0.le63; rw [j0 AL cL lg a0 f0] at e0; rw [F.exps_get _ i0, l0] at d0; obtain ⟨bL, oL, rfl, _, e0⟩ := e0; obtain ⟨bE, oE, rfl, _, d0⟩ := d0; have e3 : IntKind.i64.wrap ((F.q : Int) - 1) = ((F.q - 1 : Nat) : Int) := by rw [show (F.q : Int) - 1 = ((F.q - 1 : Nat) : Int) by omega]; exact Ay (by omega)
  have i1 : (F.q : Int) - 1 = ((F.q - 1 : Nat) : Int) := by omega
  have e5 : (n : Int) % ((F.q - 1 : Nat) : Int) = ((n % (F.q - 1) : Nat) : Int) := (qcf _ _).symm; have e6 : ((n % (F.q - 1) : Nat) : Int) + ((F.q - 1 : Nat) : Int) = ((n % (F.q - 1) + (F.q - 1) : Nat) : Int) := (qal _ _).symm; have e7 : ((n % (F.q - 1) + (F.q - 1) : Nat) : Int) % ((F.q - 1 : Nat) : Int) = ((n % (F.q - 1) : Nat) : Int) := by
   rw [<- qcf, Nat.add_mod_right, Nat.mod_mod]
  have g1 := Et (a := i) (b := n % (F.q - 1)) (by omega) (by omega); have e2 : IntKind.i64.wrap ((i : Int) * ((n % (F.q - 1) : Nat) : Int)) = ((i * (n % (F.q - 1)) : Nat) : Int) := by rw [<- Yq]; exact Ay (by omega)
  have e4 := Cg (i * (n % (F.q - 1))) (F.q - 1); have d1 : 1 <= ((F.q - 1 : Nat) : Int) := by omega
  have m0 : ((x : Int) == 0) = false := by rw [beq_eq_false_iff_ne]; omega
  have hs : n % (F.q - 1) + (F.q - 1) < 1000000 := by omega
  clear l0 f0 j0 ei a0 c0 g1; generalize i * (n % (F.q - 1)) % (F.q - 1) = k at *; generalize i * (n % (F.q - 1)) = ij at *; generalize n % (F.q - 1) + (F.q - 1) = nk2 at *; generalize n % (F.q - 1) = nk at *; generalize F.q - 1 = q1 at *; generalize F.pw x n = z at *; clear b0; go_enter Tryz.func170, Tryz.ntmps170; go_wp2_with (go_at_call 124; ((with_reducible refine g0.mono ?_); rintro e w' ⟨rfl, rfl⟩)); go_quiet (fail); go_wp2; go_ret2; exact ⟨rfl, _, rfl⟩
end Go.Proofs.YtoalkldfhkabnaaGreatDoor
