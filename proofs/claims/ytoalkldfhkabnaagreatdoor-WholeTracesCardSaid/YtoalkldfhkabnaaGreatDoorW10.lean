/- Part of WholeTraces. -/
import Derived.Test.YtoalkldfhkabnaaGreatDoorW00
import Derived.Test.YtoalkldfhkabnaaGreatDoorW09
set_option linter.all false
set_option maxRecDepth 10000
set_option maxHeartbeats 16000000
namespace Go.Proofs.YtoalkldfhkabnaaGreatDoor
open Go.RowKit Fq
theorem mk1 (w : WQ) (c0 : Array Value) (t0 : TypeId) : ∃ W, w.alloc (.cells c0 t0) = W ∧ W.heap.size = w.heap.size + 1 ∧ From w W ∧ Blk W (w.heap.size) c0 := by
 refine ⟨_, rfl, by simp, ((bR).alloc (by exact qb _) _), ?_⟩
 ·have h9 := Blk.new w c0 t0
  exact h9
theorem mk2 (w : WQ) (c0 : Array Value) (t0 : TypeId) (c1 : Array Value) (t1 : TypeId) : ∃ W, (w.alloc (.cells c0 t0)).alloc (.cells c1 t1) = W ∧ W.heap.size = w.heap.size + 2 ∧ From w W ∧ Blk W (w.heap.size) c0 ∧ Blk W (w.heap.size + 1) c1 := by
 refine ⟨_, rfl, by simp, (((bR).alloc (by exact qb _) _).alloc (by simp; try omega) _), ?_, ?_⟩
 ·have h9 := Blk.new w c0 t0
  exact (h9.alloc _)
 ·have h9 := Blk.new (w.alloc (.cells c0 t0)) c1 t1
  rw [qi] at h9; exact h9
theorem mk3 (w : WQ) (c0 : Array Value) (t0 : TypeId) (c1 : Array Value) (t1 : TypeId) (c2 : Array Value) (t2 : TypeId) : ∃ W, ((w.alloc (.cells c0 t0)).alloc (.cells c1 t1)).alloc (.cells c2 t2) = W ∧ W.heap.size = w.heap.size + 3 ∧ From w W ∧ Blk W (w.heap.size) c0 ∧ Blk W (w.heap.size + 1) c1 ∧ Blk W (w.heap.size + 1 + 1) c2 := by
 refine ⟨_, rfl, by simp, ((((bR).alloc (by exact qb _) _).alloc (by simp; try omega) _).alloc (by simp; try omega) _), ?_, ?_, ?_⟩
 ·have h9 := Blk.new w c0 t0
  exact ((h9.alloc _).alloc _)
 ·have h9 := Blk.new (w.alloc (.cells c0 t0)) c1 t1
  rw [qi] at h9; exact (h9.alloc _)
 ·have h9 := Blk.new ((w.alloc (.cells c0 t0)).alloc (.cells c1 t1)) c2 t2
  rw [qi, qi] at h9; exact h9
theorem mk4 (w : WQ) (c0 : Array Value) (t0 : TypeId) (c1 : Array Value) (t1 : TypeId) (c2 : Array Value) (t2 : TypeId) (c3 : Array Value) (t3 : TypeId) : ∃ W, (((w.alloc (.cells c0 t0)).alloc (.cells c1 t1)).alloc (.cells c2 t2)).alloc (.cells c3 t3) = W ∧ W.heap.size = w.heap.size + 4 ∧ From w W ∧ Blk W (w.heap.size) c0 ∧ Blk W (w.heap.size + 1) c1 ∧ Blk W (w.heap.size + 1 + 1) c2 ∧ Blk W (w.heap.size + 1 + 1 + 1) c3 := by
 refine ⟨_, rfl, by simp, (((((bR).alloc (by exact qb _) _).alloc (by simp; try omega) _).alloc (by simp; try omega) _).alloc (by simp; try omega) _), ?_, ?_, ?_, ?_⟩
 ·have h9 := Blk.new w c0 t0
  exact (((h9.alloc _).alloc _).alloc _)
 ·have h9 := Blk.new (w.alloc (.cells c0 t0)) c1 t1
  rw [qi] at h9; exact ((h9.alloc _).alloc _)
 ·have h9 := Blk.new ((w.alloc (.cells c0 t0)).alloc (.cells c1 t1)) c2 t2
  rw [qi, qi] at h9; exact (h9.alloc _)
 ·have h9 := Blk.new (((w.alloc (.cells c0 t0)).alloc (.cells c1 t1)).alloc (.cells c2 t2)) c3 t3
  rw [qi, qi, qi] at h9; exact h9
theorem mk5 (w : WQ) (c0 : Array Value) (t0 : TypeId) (c1 : Array Value) (t1 : TypeId) (c2 : Array Value) (t2 : TypeId) (c3 : Array Value) (t3 : TypeId) (c4 : Array Value) (t4 : TypeId) : ∃ W, ((((w.alloc (.cells c0 t0)).alloc (.cells c1 t1)).alloc (.cells c2 t2)).alloc (.cells c3 t3)).alloc (.cells c4 t4) = W ∧ W.heap.size = w.heap.size + 5 ∧ From w W ∧ Blk W (w.heap.size) c0 ∧ Blk W (w.heap.size + 1) c1 ∧ Blk W (w.heap.size + 1 + 1) c2 ∧ Blk W (w.heap.size + 1 + 1 + 1) c3 ∧ Blk W (w.heap.size + 1 + 1 + 1 + 1) c4 := by
 refine ⟨_, rfl, by simp, ((((((bR).alloc (by exact qb _) _).alloc (by simp; try omega) _).alloc (by simp; try omega) _).alloc (by simp; try omega) _).alloc (by simp; try omega) _), ?_, ?_, ?_, ?_, ?_⟩
 ·have h9 := Blk.new w c0 t0
  exact ((((h9.alloc _).alloc _).alloc _).alloc _)
 ·have h9 := Blk.new (w.alloc (.cells c0 t0)) c1 t1
  rw [qi] at h9; exact (((h9.alloc _).alloc _).alloc _)
 ·have h9 := Blk.new ((w.alloc (.cells c0 t0)).alloc (.cells c1 t1)) c2 t2
  rw [qi, qi] at h9; exact ((h9.alloc _).alloc _)
 ·have h9 := Blk.new (((w.alloc (.cells c0 t0)).alloc (.cells c1 t1)).alloc (.cells c2 t2)) c3 t3
  rw [qi, qi, qi] at h9; exact (h9.alloc _)
 ·have h9 := Blk.new ((((w.alloc (.cells c0 t0)).alloc (.cells c1 t1)).alloc (.cells c2 t2)).alloc (.cells c3 t3)) c4 t4
  rw [qi, qi, qi, qi] at h9; exact h9
theorem Blk.t1 {w : WQ} {b : Nat} {v0 : Value} {l : VQ} (h : Blk w b (v0 :: l).toArray) : w.cell? ⟨b, 0, none⟩ = some v0 :=
 h.cell (i := 0) (by simp)
theorem Blk.t2 {w : WQ} {b : Nat} {v0 v1 : Value} {l : VQ} (h : Blk w b (v0 :: v1 :: l).toArray) : w.cell? ⟨b, 0, none⟩ = some v0 ∧ w.cell? ⟨b, 1, none⟩ = some v1 :=
 ⟨h.cell (i := 0) (by simp), h.cell (i := 1) (by simp)⟩
theorem Blk.t3 {w : WQ} {b : Nat} {v0 v1 v2 : Value} {l : VQ} (h : Blk w b (v0 :: v1 :: v2 :: l).toArray) : w.cell? ⟨b, 0, none⟩ = some v0 ∧ w.cell? ⟨b, 1, none⟩ = some v1 ∧ w.cell? ⟨b, 2, none⟩ = some v2 :=
 ⟨h.cell (i := 0) (by simp), h.cell (i := 1) (by simp), h.cell (i := 2) (by simp)⟩
theorem Blk.t4 {w : WQ} {b : Nat} {v0 v1 v2 v3 : Value} {l : VQ} (h : Blk w b (v0 :: v1 :: v2 :: v3 :: l).toArray) : w.cell? ⟨b, 0, none⟩ = some v0 ∧ w.cell? ⟨b, 1, none⟩ = some v1 ∧ w.cell? ⟨b, 2, none⟩ = some v2 ∧ w.cell? ⟨b, 3, none⟩ = some v3 :=
 ⟨h.cell (i := 0) (by simp), h.cell (i := 1) (by simp), h.cell (i := 2) (by simp), h.cell (i := 3) (by simp)⟩
theorem Blk.t5 {w : WQ} {b : Nat} {v0 v1 v2 v3 v4 : Value} {l : VQ} (h : Blk w b (v0 :: v1 :: v2 :: v3 :: v4 :: l).toArray) : w.cell? ⟨b, 0, none⟩ = some v0 ∧ w.cell? ⟨b, 1, none⟩ = some v1 ∧ w.cell? ⟨b, 2, none⟩ = some v2 ∧ w.cell? ⟨b, 3, none⟩ = some v3 ∧ w.cell? ⟨b, 4, none⟩ = some v4 :=
 ⟨h.cell (i := 0) (by simp), h.cell (i := 1) (by simp), h.cell (i := 2) (by simp), h.cell (i := 3) (by simp), h.cell (i := 4) (by simp)⟩
theorem Blk.t6 {w : WQ} {b : Nat} {v0 v1 v2 v3 v4 v5 : Value} {l : VQ} (h : Blk w b (v0 :: v1 :: v2 :: v3 :: v4 :: v5 :: l).toArray) : w.cell? ⟨b, 0, none⟩ = some v0 ∧ w.cell? ⟨b, 1, none⟩ = some v1 ∧ w.cell? ⟨b, 2, none⟩ = some v2 ∧ w.cell? ⟨b, 3, none⟩ = some v3 ∧ w.cell? ⟨b, 4, none⟩ = some v4 ∧ w.cell? ⟨b, 5, none⟩ = some v5 :=
 ⟨h.cell (i := 0) (by simp), h.cell (i := 1) (by simp), h.cell (i := 2) (by simp), h.cell (i := 3) (by simp), h.cell (i := 4) (by simp), h.cell (i := 5) (by simp)⟩
theorem Blk.t7 {w : WQ} {b : Nat} {v0 v1 v2 v3 v4 v5 v6 : Value} {l : VQ} (h : Blk w b (v0 :: v1 :: v2 :: v3 :: v4 :: v5 :: v6 :: l).toArray) : w.cell? ⟨b, 0, none⟩ = some v0 ∧ w.cell? ⟨b, 1, none⟩ = some v1 ∧ w.cell? ⟨b, 2, none⟩ = some v2 ∧ w.cell? ⟨b, 3, none⟩ = some v3 ∧ w.cell? ⟨b, 4, none⟩ = some v4 ∧ w.cell? ⟨b, 5, none⟩ = some v5 ∧ w.cell? ⟨b, 6, none⟩ = some v6 :=
 ⟨h.cell (i := 0) (by simp), h.cell (i := 1) (by simp), h.cell (i := 2) (by simp), h.cell (i := 3) (by simp), h.cell (i := 4) (by simp), h.cell (i := 5) (by simp), h.cell (i := 6) (by simp)⟩
theorem Blk.t8 {w : WQ} {b : Nat} {v0 v1 v2 v3 v4 v5 v6 v7 : Value} {l : VQ} (h : Blk w b (v0 :: v1 :: v2 :: v3 :: v4 :: v5 :: v6 :: v7 :: l).toArray) : w.cell? ⟨b, 0, none⟩ = some v0 ∧ w.cell? ⟨b, 1, none⟩ = some v1 ∧ w.cell? ⟨b, 2, none⟩ = some v2 ∧ w.cell? ⟨b, 3, none⟩ = some v3 ∧ w.cell? ⟨b, 4, none⟩ = some v4 ∧ w.cell? ⟨b, 5, none⟩ = some v5 ∧ w.cell? ⟨b, 6, none⟩ = some v6 ∧ w.cell? ⟨b, 7, none⟩ = some v7 :=
 ⟨h.cell (i := 0) (by simp), h.cell (i := 1) (by simp), h.cell (i := 2) (by simp), h.cell (i := 3) (by simp), h.cell (i := 4) (by simp), h.cell (i := 5) (by simp), h.cell (i := 6) (by simp), h.cell (i := 7) (by simp)⟩
theorem Blk.t9 {w : WQ} {b : Nat} {v0 v1 v2 v3 v4 v5 v6 v7 v8 : Value} {l : VQ} (h : Blk w b (v0 :: v1 :: v2 :: v3 :: v4 :: v5 :: v6 :: v7 :: v8 :: l).toArray) : w.cell? ⟨b, 0, none⟩ = some v0 ∧ w.cell? ⟨b, 1, none⟩ = some v1 ∧ w.cell? ⟨b, 2, none⟩ = some v2 ∧ w.cell? ⟨b, 3, none⟩ = some v3 ∧ w.cell? ⟨b, 4, none⟩ = some v4 ∧ w.cell? ⟨b, 5, none⟩ = some v5 ∧ w.cell? ⟨b, 6, none⟩ = some v6 ∧ w.cell? ⟨b, 7, none⟩ = some v7 ∧ w.cell? ⟨b, 8, none⟩ = some v8 :=
 ⟨h.cell (i := 0) (by simp), h.cell (i := 1) (by simp), h.cell (i := 2) (by simp), h.cell (i := 3) (by simp), h.cell (i := 4) (by simp), h.cell (i := 5) (by simp), h.cell (i := 6) (by simp), h.cell (i := 7) (by simp), h.cell (i := 8) (by simp)⟩
theorem Blk.t10 {w : WQ} {b : Nat} {v0 v1 v2 v3 v4 v5 v6 v7 v8 v9 : Value} {l : VQ} (h : Blk w b (v0 :: v1 :: v2 :: v3 :: v4 :: v5 :: v6 :: v7 :: v8 :: v9 :: l).toArray) : w.cell? ⟨b, 0, none⟩ = some v0 ∧ w.cell? ⟨b, 1, none⟩ = some v1 ∧ w.cell? ⟨b, 2, none⟩ = some v2 ∧ w.cell? ⟨b, 3, none⟩ = some v3 ∧ w.cell? ⟨b, 4, none⟩ = some v4 ∧ w.cell? ⟨b, 5, none⟩ = some v5 ∧ w.cell? ⟨b, 6, none⟩ = some v6 ∧ w.cell? ⟨b, 7, none⟩ = some v7 ∧ w.cell? ⟨b, 8, none⟩ = some v8 ∧ w.cell? ⟨b, 9, none⟩ = some v9 :=
 ⟨h.cell (i := 0) (by simp), h.cell (i := 1) (by simp), h.cell (i := 2) (by simp), h.cell (i := 3) (by simp), h.cell (i := 4) (by simp), h.cell (i := 5) (by simp), h.cell (i := 6) (by simp), h.cell (i := 7) (by simp), h.cell (i := 8) (by simp), h.cell (i := 9) (by simp)⟩
theorem Blk.c0 {w : WQ} {b : Nat} {v0 : Value} {l : VQ} (h : Blk w b (v0 :: l).toArray) : w.cell? ⟨b, 0, none⟩ = some v0 := h.cell (i := 0) (by simp)
theorem Blk.c1 {w : WQ} {b : Nat} {v0 v1 : Value} {l : VQ} (h : Blk w b (v0 :: v1 :: l).toArray) : w.cell? ⟨b, 1, none⟩ = some v1 := h.cell (i := 1) (by simp)
theorem Blk.c2 {w : WQ} {b : Nat} {v0 v1 v2 : Value} {l : VQ} (h : Blk w b (v0 :: v1 :: v2 :: l).toArray) : w.cell? ⟨b, 2, none⟩ = some v2 := h.cell (i := 2) (by simp)
theorem Blk.c3 {w : WQ} {b : Nat} {v0 v1 v2 v3 : Value} {l : VQ} (h : Blk w b (v0 :: v1 :: v2 :: v3 :: l).toArray) : w.cell? ⟨b, 3, none⟩ = some v3 := h.cell (i := 3) (by simp)
theorem Blk.c4 {w : WQ} {b : Nat} {v0 v1 v2 v3 v4 : Value} {l : VQ} (h : Blk w b (v0 :: v1 :: v2 :: v3 :: v4 :: l).toArray) : w.cell? ⟨b, 4, none⟩ = some v4 := h.cell (i := 4) (by simp)
theorem Blk.c5 {w : WQ} {b : Nat} {v0 v1 v2 v3 v4 v5 : Value} {l : VQ} (h : Blk w b (v0 :: v1 :: v2 :: v3 :: v4 :: v5 :: l).toArray) : w.cell? ⟨b, 5, none⟩ = some v5 := h.cell (i := 5) (by simp)
theorem Blk.c6 {w : WQ} {b : Nat} {v0 v1 v2 v3 v4 v5 v6 : Value} {l : VQ} (h : Blk w b (v0 :: v1 :: v2 :: v3 :: v4 :: v5 :: v6 :: l).toArray) : w.cell? ⟨b, 6, none⟩ = some v6 := h.cell (i := 6) (by simp)
theorem Blk.c7 {w : WQ} {b : Nat} {v0 v1 v2 v3 v4 v5 v6 v7 : Value} {l : VQ} (h : Blk w b (v0 :: v1 :: v2 :: v3 :: v4 :: v5 :: v6 :: v7 :: l).toArray) : w.cell? ⟨b, 7, none⟩ = some v7 := h.cell (i := 7) (by simp)
theorem Blk.c8 {w : WQ} {b : Nat} {v0 v1 v2 v3 v4 v5 v6 v7 v8 : Value} {l : VQ} (h : Blk w b (v0 :: v1 :: v2 :: v3 :: v4 :: v5 :: v6 :: v7 :: v8 :: l).toArray) : w.cell? ⟨b, 8, none⟩ = some v8 := h.cell (i := 8) (by simp)
theorem Blk.c9 {w : WQ} {b : Nat} {v0 v1 v2 v3 v4 v5 v6 v7 v8 v9 : Value} {l : VQ} (h : Blk w b (v0 :: v1 :: v2 :: v3 :: v4 :: v5 :: v6 :: v7 :: v8 :: v9 :: l).toArray) : w.cell? ⟨b, 9, none⟩ = some v9 := h.cell (i := 9) (by simp)
theorem Blk.u2 {w : WQ} {b : Nat} {cs : Array Value} (h : Blk w b cs) : w.frozen? ⟨b, 0, none⟩ = false ∧ w.frozen? ⟨b, 1, none⟩ = false := ⟨h.free 0, h.free 1⟩
theorem Blk.u3 {w : WQ} {b : Nat} {cs : Array Value} (h : Blk w b cs) : w.frozen? ⟨b, 0, none⟩ = false ∧ w.frozen? ⟨b, 1, none⟩ = false ∧ w.frozen? ⟨b, 2, none⟩ = false := ⟨h.free 0, h.free 1, h.free 2⟩
theorem Blk.u4 {w : WQ} {b : Nat} {cs : Array Value} (h : Blk w b cs) : w.frozen? ⟨b, 0, none⟩ = false ∧ w.frozen? ⟨b, 1, none⟩ = false ∧ w.frozen? ⟨b, 2, none⟩ = false ∧ w.frozen? ⟨b, 3, none⟩ = false := ⟨h.free 0, h.free 1, h.free 2, h.free 3⟩
theorem Blk.u5 {w : WQ} {b : Nat} {cs : Array Value} (h : Blk w b cs) : w.frozen? ⟨b, 0, none⟩ = false ∧ w.frozen? ⟨b, 1, none⟩ = false ∧ w.frozen? ⟨b, 2, none⟩ = false ∧ w.frozen? ⟨b, 3, none⟩ = false ∧ w.frozen? ⟨b, 4, none⟩ = false := ⟨h.free 0, h.free 1, h.free 2, h.free 3, h.free 4⟩
theorem Blk.u6 {w : WQ} {b : Nat} {cs : Array Value} (h : Blk w b cs) : w.frozen? ⟨b, 0, none⟩ = false ∧ w.frozen? ⟨b, 1, none⟩ = false ∧ w.frozen? ⟨b, 2, none⟩ = false ∧ w.frozen? ⟨b, 3, none⟩ = false ∧ w.frozen? ⟨b, 4, none⟩ = false ∧ w.frozen? ⟨b, 5, none⟩ = false := ⟨h.free 0, h.free 1, h.free 2, h.free 3, h.free 4, h.free 5⟩
theorem Blk.u7 {w : WQ} {b : Nat} {cs : Array Value} (h : Blk w b cs) : w.frozen? ⟨b, 0, none⟩ = false ∧ w.frozen? ⟨b, 1, none⟩ = false ∧ w.frozen? ⟨b, 2, none⟩ = false ∧ w.frozen? ⟨b, 3, none⟩ = false ∧ w.frozen? ⟨b, 4, none⟩ = false ∧ w.frozen? ⟨b, 5, none⟩ = false ∧ w.frozen? ⟨b, 6, none⟩ = false := ⟨h.free 0, h.free 1, h.free 2, h.free 3, h.free 4, h.free 5, h.free 6⟩
theorem Blk.u8 {w : WQ} {b : Nat} {cs : Array Value} (h : Blk w b cs) : w.frozen? ⟨b, 0, none⟩ = false ∧ w.frozen? ⟨b, 1, none⟩ = false ∧ w.frozen? ⟨b, 2, none⟩ = false ∧ w.frozen? ⟨b, 3, none⟩ = false ∧ w.frozen? ⟨b, 4, none⟩ = false ∧ w.frozen? ⟨b, 5, none⟩ = false ∧ w.frozen? ⟨b, 6, none⟩ = false ∧ w.frozen? ⟨b, 7, none⟩ = false := ⟨h.free 0, h.free 1, h.free 2, h.free 3, h.free 4, h.free 5, h.free 6, h.free 7⟩
theorem Blk.u9 {w : WQ} {b : Nat} {cs : Array Value} (h : Blk w b cs) : w.frozen? ⟨b, 0, none⟩ = false ∧ w.frozen? ⟨b, 1, none⟩ = false ∧ w.frozen? ⟨b, 2, none⟩ = false ∧ w.frozen? ⟨b, 3, none⟩ = false ∧ w.frozen? ⟨b, 4, none⟩ = false ∧ w.frozen? ⟨b, 5, none⟩ = false ∧ w.frozen? ⟨b, 6, none⟩ = false ∧ w.frozen? ⟨b, 7, none⟩ = false ∧ w.frozen? ⟨b, 8, none⟩ = false := ⟨h.free 0, h.free 1, h.free 2, h.free 3, h.free 4, h.free 5, h.free 6, h.free 7, h.free 8⟩
theorem Blk.u10 {w : WQ} {b : Nat} {cs : Array Value} (h : Blk w b cs) : w.frozen? ⟨b, 0, none⟩ = false ∧ w.frozen? ⟨b, 1, none⟩ = false ∧ w.frozen? ⟨b, 2, none⟩ = false ∧ w.frozen? ⟨b, 3, none⟩ = false ∧ w.frozen? ⟨b, 4, none⟩ = false ∧ w.frozen? ⟨b, 5, none⟩ = false ∧ w.frozen? ⟨b, 6, none⟩ = false ∧ w.frozen? ⟨b, 7, none⟩ = false ∧ w.frozen? ⟨b, 8, none⟩ = false ∧ w.frozen? ⟨b, 9, none⟩ = false := ⟨h.free 0, h.free 1, h.free 2, h.free 3, h.free 4, h.free 5, h.free 6, h.free 7, h.free 8, h.free 9⟩
def Sv (F : FD) (m n c : Nat) (B : OQ) (P : NQ) (w : WQ) (e : Ending) (w' : WQ) : Prop :=
 ∃ b A pc, e = .returned (.tuple #[.agg #[pQ b, nQ m, .slice B n c, .slice A P.length pc], zQ]) ∧ w.heap.size <= b ∧ GFo w' w.heap.size b F ∧ OwnN w' w.heap.size A P.length pc P ∧ Below w.heap.size w w'
theorem Mu (w : WQ) (F : FD) (hF : F.Ok) (A : OQ) (c : Nat) (hmod : RdN w A (modL F).length c (modL F)) (m n c' : Nat) (B : OQ) (R : LQ) (P : NQ) (hR : RdM w B n c' R) (hRr : Rref F.fld m R P) (hm0 : 0 < m) (hm9 : m <= 256) (hn9 : n <= 256) :
  cQ 104 #[Ax F A c, matV m B n c'] w (Sv F m n c' B P w) := by
 have e0 := fun (w' : WQ) (hb : Below w.heap.size w w') => Fm w' F hF A c (hmod.below hb) m n c' B R (hR.below hb) hRr.mat hm0 hm9 hn9
 rw [Kd hF.fldOk hRr] at e0
 have k1 := fun w' (hb : Below w.heap.size w w') => Mp w' F hF A c (hmod.below hb)
 have z0 := sK k1
 have f0 := fun (w' : WQ) (hb : Below w.heap.size w w') (G : OQ) (nn cc : Nat) (h9 : RdM w' G nn cc R) => Qt w' G B nn n cc c' R R h9 (hR.below hb)
 rw [decide_eq_true (rfl : R = R)] at f0
 have t1 := sK f0
 obtain ⟨mL, j0⟩ := xQ ((modL F).length)
 obtain ⟨M, h0⟩ := xQ (F.m + 1)
 have e1 : Ax F A c = .agg #[nQ F.p, nQ M, .slice A mL c] := by rw [h0, j0]; rfl
 unfold Lu matV at e0
 simp only at e0
 unfold Sv matV
 rw [e1] at e0 z0 ⊢
 have o1 := sK e0
 clear e0 k1 f0 e1 h0 j0 hmod hR hRr
 generalize P.length = L at *
 go_enter Tryz.func104, Tryz.ntmps104
 go_upto_region 1 with fail
 obtain ⟨W, hW⟩ := xQ (((w.alloc (.cells #[nQ F.p, nQ M, .slice A mL c] 24)).alloc (.cells #[nQ m, .slice B n c'] 52)).alloc (.cells #[.pointer none, zQ, eQ, eQ] 158))
 have f2 : W.heap.size = w.heap.size + 3 := by rw [hW]; simp
 have b0 : Below w.heap.size w W := by rw [hW]; exact (((bR).alloc (qb _) _).alloc (by simp) _).alloc (by simp; omega) _
 have b1 : Blk W w.heap.size #[nQ F.p, nQ M, .slice A mL c] := by rw [hW]; exact ((Blk.new _ _ _).alloc _).alloc _
 have f1 : Blk W (w.heap.size + 1) #[nQ m, .slice B n c'] := by
  rw [hW]; have h9 := (Blk.new (w.alloc (.cells #[nQ F.p, nQ M, .slice A mL c] 24)) #[nQ m, .slice B n c'] 52).alloc (.cells #[.pointer none, zQ, eQ, eQ] 158)
  rwa [qi] at h9
 have a1 : Blk W (w.heap.size + 1 + 1) #[.pointer none, zQ, eQ, eQ] := by
  rw [hW]; have h9 := Blk.new ((w.alloc (.cells #[nQ F.p, nQ M, .slice A mL c] 24)).alloc (.cells #[nQ m, .slice B n c'] 52)) #[.pointer none, zQ, eQ, eQ] 158
  rwa [qi, qi] at h9
 rw [<- hW]
 clear hW
 have y0 : Hid (∀ wx, From W wx -> wx.cell? ⟨w.heap.size, 0, none⟩ = some (nQ F.p) ∧ wx.cell? ⟨w.heap.size, 1, none⟩ = some (nQ M) ∧ wx.cell? ⟨w.heap.size, 2, none⟩ = some (.slice A mL c)) := sK fun wx hx =>
  have h9 := b1.below hx
  ⟨h9.c0, h9.c1, h9.c2⟩
 have t0 : Hid (∀ wx, From W wx -> wx.cell? ⟨w.heap.size + 1, 0, none⟩ = some (nQ m) ∧ wx.cell? ⟨w.heap.size + 1, 1, none⟩ = some (.slice B n c')) := sK fun wx hx =>
  have h9 := f1.below hx
  ⟨h9.c0, h9.c1⟩
 have r1 := sK a1
 clear b1 f1 a1
 obtain ⟨h1, i1, j1⟩ := y0 W (From.refl W)
 obtain ⟨a2, e2⟩ := t0 W (From.refl W)
 go_upto_region 4 with (go_at_call 117; refine (o1 W b0).mono ?_; rintro e w2 ⟨g, P1, pc, rfl, g1, m0, i0⟩)
 have v0 : From W w2 := i0
 obtain ⟨w3, g0⟩ : ∃ x, x = w2.alloc (.cells #[nQ m, .slice (sQ g) L L] 52) := ⟨_, rfl⟩
 have hT : Blk w3 w2.heap.size #[nQ m, .slice (sQ g) L L] := by rw [g0]; exact Blk.new _ _ _
 have n0 : From W w3 := by rw [g0]; exact v0.alloc v0.size _
 have m1 : OwnM w3 W.heap.size (sQ g) L L R := by rw [g0]; exact g1.below (Ac _ _)
 have l1 : OwnN w3 W.heap.size P1 L pc P := by rw [g0]; exact m0.alloc _
 have k2 : w2.heap.size < w3.heap.size := hT.lt
 have m2 : w3.cell? ⟨w2.heap.size, 1, none⟩ = some (.slice (sQ g) L L) := hT.c1
 obtain ⟨g2, i2⟩ := t0 w3 n0
 have f0 := t1 w3 (b0.trans (qf n0 (by omega))) _ _ _ m1.rd
 have u1 := sK f0
 have w1 := sK l1
 have n1 := sK n0
 rw [<- g0]
 clear g0 hT g1 m0 i0 v0 m1 l1 f0 n0 h1 i1 j1 a2 e2
 go_upto_region 6 with (go_at_call 162; refine u1.mono ?_; rintro e w4 ⟨rfl, w0⟩)
 have l0 := sK (Aa w0 n1.out)
 have x1 := sK (w1.below w0)
 obtain ⟨h1, i1, j1⟩ := y0 w4 l0.out
 clear w0
 go_upto_region 7 with (go_at_call 54; refine (z0 w4 (b0.trans (qf l0 (by omega)))).mono ?_; rintro e w5 ⟨b, rfl, z1, hG, x0⟩)
 have r0 := sK (Aa x0 l0.out)
 have y1 := sK (x1.below x0)
 have HG := sK hG
 obtain ⟨h2, j2⟩ := t0 w5 r0.out
 have a0 := r1.below r0.out
 have l2 := l0.size
 have d0 := a0.free 0
 have d1 := a0.free 1
 have d2 := a0.free 2
 have d3 := a0.free 3
 have c0 : w5.cell? ⟨w.heap.size + 1 + 1, 0, none⟩ = some (.pointer none) := a0.c0
 have c1 : w5.cell? ⟨w.heap.size + 1 + 1, 1, none⟩ = some (zQ) := a0.c1
 have c2 : w5.cell? ⟨w.heap.size + 1 + 1, 2, none⟩ = some (eQ) := a0.c2
 have c3 : w5.cell? ⟨w.heap.size + 1 + 1, 3, none⟩ = some (eQ) := a0.c3
 have s1 := sK a0
 clear a0 hG x0
 go_wp2
 have hE := (((s1.set 0 (pQ b)).set 1 (nQ m)).set 2 (.slice B n c')).set 3 (.slice P1 L pc)
 obtain ⟨q0, q1, q2, q3⟩ := hE.t4
 refine bodyPost_ret (v := .tuple #[.agg #[pQ b, nQ m, .slice B n c', .slice P1 L pc], zQ]) (by simp [results, Tryz.results104, go_sem, q0, q1, q2, q3]) rfl ⟨b, P1, pc, rfl, by omega, ?_, ?_, ?_⟩
 ·exact ((((HG.set (by omega) _ _).set (by omega) _ _).set (by omega) _ _).set (by omega) _ _).mono (by omega)
 ·exact ((((y1.far (by omega) _ _).far (by omega) _ _).far (by omega) _ _).far (by omega) _ _).mono (by omega)
 ·have hB := b0.trans (qf r0 (by omega))
  exact (((hB.setCell (p := ⟨w.heap.size + 1 + 1, 0, none⟩) (by simp only; omega) _).setCell (p := ⟨w.heap.size + 1 + 1, 1, none⟩) (by simp only; omega) _).setCell (p := ⟨w.heap.size + 1 + 1, 2, none⟩) (by simp only; omega) _).setCell (p := ⟨w.heap.size + 1 + 1, 3, none⟩) (by simp only; omega) _
theorem Xr (w : WQ) (F : FD) (hF : F.Ok) (A : OQ) (c : Nat) (hmod : RdN w A (modL F).length c (modL F)) (m n c' : Nat) (B : OQ) (R : LQ) (P : NQ) (hR : RdM w B n c' R) (hRr : Rref F.fld m R P) (hm0 : 0 < m) (hm9 : m <= 256) (hn9 : n <= 256) :
  cQ 53 #[Ax F A c, matV m B n c'] w (Ah (zQ) w) := by
 have o0 := fun (w' : WQ) (hb : Below w.heap.size w w') => Mu w' F hF A c (hmod.below hb) m n c' B R P (hR.below hb) hRr hm0 hm9 hn9
 obtain ⟨mL, j0⟩ := xQ ((modL F).length)
 obtain ⟨M, h0⟩ := xQ (F.m + 1)
 have e1 : Ax F A c = .agg #[nQ F.p, nQ M, .slice A mL c] := by rw [h0, j0]; rfl
 unfold matV at o0 ⊢
 rw [e1] at o0 ⊢
 have v1 := sK o0
 clear o0 e1 h0 j0 hmod hR hRr
 go_enter Tryz.func53, Tryz.ntmps53
 have b0 : Below w.heap.size w ((w.alloc (.cells #[nQ F.p, nQ M, .slice A mL c] 24)).alloc (.cells #[nQ m, .slice B n c'] 52)) := ((bR).alloc (qb _) _).alloc (by simp) _
 have HW := sK b0
 clear b0
 go_wp2_with (go_at_call 104; refine (v1 _ HW.out).mono ?_; rintro e w2 ⟨b, P1, pc, rfl, z1, hG, m0, i0⟩)
 have HB := sK (HW.trans (qf i0 HW.size))
 clear hG m0 i0
 go_ret
 exact ⟨rfl, by first | exact HB.alloc HB.size _ | exact HB.out⟩
def Dj (F : FD) (A : OQ) (c : Nat) (N : Nat) (B : OQ) (k cg : Nat) : Value :=
 .agg #[nQ F.p, .int .i64 ((F.m + 1 : Nat) : Int), .slice A (modL F).length c, nQ N, .slice B k cg]
theorem Nz (w : WQ) (F : FD) (A : OQ) (c N k cg : Nat) (B : OQ) : cQ 27 #[Dj F A c N B k cg] w (Ah (matV N B k cg) w) := by
 unfold Dj
 generalize (modL F).length = mL
 generalize F.m + 1 = M
 unfold matV
 go_enter Tryz.func27, Tryz.ntmps27
 go_wp2
 refine bodyPost_ret (v := .agg #[nQ N, .slice B k cg]) (by simp [results, Tryz.results27, go_sem]) rfl ⟨rfl, ?_⟩
 exact ((Below.refl w.heap.size w).alloc (qb _) _).alloc (by simp) _
def Me (F : FD) (w : WQ) (e : Ending) (w' : WQ) : Prop :=
 ∃ A c, e = .returned (Ax F A c) ∧ RdN w' A (modL F).length c (modL F) ∧ (∀ b e0, A = some ⟨b, e0, none⟩ -> 0 < (modL F).length -> w.heap.size <= b) ∧ Below w.heap.size w w'
theorem pM (w : WQ) (F : FD) (hF : F.Ok) (A : OQ) (c : Nat) (hmod : RdN w A (modL F).length c (modL F)) : cQ 67 #[Ax F A c] w (Me F w) := by
 have f1 : (modL F).length <= 1000 := by have := Fp F; have := hF.bd; split at * <;> omega
 have y0 := fun (w' : WQ) (hb : Below w.heap.size w w') => Gn w' A _ c _ (hmod.below hb) f1
 have r0 := sK y0
 unfold Me
 have e1 : ∀ A c, Ax F A c = .agg #[nQ F.p, .int .i64 ((F.m + 1 : Nat) : Int), .slice A (modL F).length c] := fun _ _ => rfl
 simp only [e1]
 clear y0 hmod e1 f1
 unfold RetC at r0
 generalize (modL F).length = mL at *
 generalize F.m + 1 = M at *
 go_enter Tryz.func67, Tryz.ntmps67
 go_upto_region 1 with fail
 obtain ⟨W, hW⟩ := xQ (((w.alloc (.cells #[nQ F.p, nQ M, .slice A mL c] 24)).alloc (.cells #[zQ, zQ, eQ] 24)))
 have n1 : W.heap.size = w.heap.size + 2 := by rw [hW]; simp
 have v0 : Below w.heap.size w W := by rw [hW]; exact ((bR).alloc (qb _) _).alloc (by simp) _
 have n0 : Blk W w.heap.size #[nQ F.p, nQ M, .slice A mL c] := by rw [hW]; exact (Blk.new _ _ _).alloc _
 have t0 : Blk W (w.heap.size + 1) #[zQ, zQ, eQ] := by
  rw [hW]; have h9 := Blk.new (w.alloc (.cells #[nQ F.p, nQ M, .slice A mL c] 24)) #[zQ, zQ, eQ] 24
  rwa [qi] at h9
 rw [<- hW]
 clear hW
 have f2 : W.cell? ⟨w.heap.size, 2, none⟩ = some (.slice A mL c) := n0.c2
 have m0 := sK n0
 have k1 := sK t0
 clear n0 t0
 go_upto_region 2 with (go_at_call 125; refine (r0 W v0).mono ?_; rintro e w2 ⟨A2, c2, rfl, i1, g1, g0⟩; have l1 : w2.cell? ⟨w.heap.size, 2, none⟩ = some (.slice A mL c) := (m0.below g0).c2; have m1 := (m0.below g0).free 2)
 obtain ⟨w3, i0⟩ : ∃ x, x = w2.setCell ⟨w.heap.size, 2, none⟩ (.slice A2 mL c2) := ⟨_, rfl⟩
 have o1 := g0.size
 have j0 : Blk w3 w.heap.size #[nQ F.p, nQ M, .slice A2 mL c2] := by rw [i0]; exact (m0.below g0).set 2 _
 have o0 : w2.grownBy w3 (some w.heap.size) := by rw [i0]; exact Ad _ _ _ _
 have f0 : Blk w3 (w.heap.size + 1) #[zQ, zQ, eQ] := (k1.below g0).kept o0 (by simp)
 have x0 : ∀ b e0, A2 = some ⟨b, e0, none⟩ -> 0 < mL -> W.heap.size <= b := fun b e0 e h0 => by
  obtain ⟨g8, e8, h8, _⟩ := (g1 h0).block h0; rw [e] at e8; simp only [qc, qd] at e8; omega
 have l0 := sK x0
 have j1 : RdN w3 A2 mL c2 (modL F) := i1.kept o0 (fun b e0 e h0 e2 => by have := l0 b e0 e h0; omega)
 have w0 : Below w.heap.size w w3 := by rw [i0]; exact (v0.trans (g0.mono (by omega))).setCell (p := ⟨w.heap.size, 2, none⟩) (qb _) _
 rw [<- i0]
 clear i0 o0 x0 f2 i1 g1 g0
 have a0 : w3.cell? ⟨w.heap.size, 0, none⟩ = some (nQ F.p) := j0.c0
 have a1 : w3.cell? ⟨w.heap.size, 1, none⟩ = some (nQ M) := j0.c1
 have a2 : w3.cell? ⟨w.heap.size, 2, none⟩ = some (.slice A2 mL c2) := j0.c2
 have b0 : w3.cell? ⟨w.heap.size + 1, 0, none⟩ = some (zQ) := f0.c0
 have b1 : w3.cell? ⟨w.heap.size + 1, 1, none⟩ = some (zQ) := f0.c1
 have b2 : w3.cell? ⟨w.heap.size + 1, 2, none⟩ = some (eQ) := f0.c2
 have d0 := f0.free 0
 have d1 := f0.free 1
 have d2 := f0.free 2
 have HR := sK j1
 have HB := sK w0
 have HD := sK f0
 clear j0 j1 w0 f0
 go_wp2
 have hE := ((HD.set 0 (nQ F.p)).set 1 (nQ M)).set 2 (.slice A2 mL c2)
 obtain ⟨q0, q1, q2⟩ := hE.t3
 have z0 : w3.grownBy (((w3.setCell ⟨w.heap.size + 1, 0, none⟩ (nQ F.p)).setCell ⟨w.heap.size + 1, 1, none⟩ (nQ M)).setCell ⟨w.heap.size + 1, 2, none⟩ (.slice A2 mL c2)) (some (w.heap.size + 1)) := ((Ad _ _ _ _).trans (Ad _ _ _ _)).trans (Ad _ _ _ _)
 refine bodyPost_ret (v := .agg #[nQ F.p, nQ M, .slice A2 mL c2]) (by simp [results, Tryz.results67, go_sem, q0, q1, q2]) rfl ⟨A2, c2, rfl, HR.kept z0 (fun b e0 e h0 e2 => by have := l0 b e0 e h0; omega), fun b e0 e h0 => by have := l0 b e0 e h0; omega, HB.grown z0 (by have := HB.size; omega) (fun k hk => by simp at hk; omega)⟩
theorem Pa (w : WQ) (N : Nat) (h0 : 0 < N) (h1 : N <= 64) : cQ 52 #[nQ N] w (Ba (zQ) w) := by
 have h2 : ¬ (N : Int) < 1 := by omega
 have h3 : ¬ (64 : Int) < (N : Int) := by omega
 go_enter Tryz.func52, Tryz.ntmps52
 go_wp2
 go_ret
 exact ⟨rfl, rfl⟩
def Pg (B : Nat) (F : FD) (mL M : Nat) (v : Value) (w : WQ) : Prop := ∃ A c, v = .agg #[nQ F.p, nQ M, .slice A mL c] ∧ RdN w A mL c (modL F) ∧ ∀ b f0, A = some ⟨b, f0, none⟩ -> 0 < mL -> B <= b
theorem Pg.lasting {B : Nat} {F : FD} {mL M : Nat} : ∀ v w w', Below w.heap.size w w' -> Pg B F mL M v w -> Pg B F mL M v w' := fun _ _ _ hb ⟨A, c, h1, h2, h3⟩ => ⟨A, c, h1, h2.below hb, h3⟩
def Um (B0 : Nat) (F : FD) (mL M N : Nat) (B : OQ) (k cg : Nat) (v : Value) (w : WQ) : Prop := ∃ A c, v = .agg #[nQ F.p, nQ M, .slice A mL c, nQ N, .slice B k cg] ∧ RdN w A mL c (modL F) ∧ ∀ b f0, A = some ⟨b, f0, none⟩ -> 0 < mL -> B0 <= b
theorem Um.lasting {B0 : Nat} {F : FD} {mL M N : Nat} {B : OQ} {k cg : Nat} : ∀ v w w', Below w.heap.size w w' -> Um B0 F mL M N B k cg v w -> Um B0 F mL M N B k cg v w' := fun _ _ _ hb ⟨A, c, h1, h2, h3⟩ => ⟨A, c, h1, h2.below hb, h3⟩
def Oi (F : FD) (N : Nat) (B : OQ) (k cg : Nat) (w : WQ) (e : Ending) (w' : WQ) : Prop :=
 ∃ A c, e = .returned (.tuple #[Dj F A c N B k cg, zQ]) ∧ RdN w' A (modL F).length c (modL F) ∧ (∀ b f0, A = some ⟨b, f0, none⟩ -> 0 < (modL F).length -> w.heap.size <= b) ∧ Below w.heap.size w w'
theorem Xu (w : WQ) (F : FD) (hF : F.Ok) (A : OQ) (c : Nat) (hmod : RdN w A (modL F).length c (modL F)) (N k cg : Nat) (B : OQ) :
  cQ 28 #[Ax F A c, matV N B k cg, zQ] w (Oi F N B k cg w) := by
 have o0 := fun (w' : WQ) (hb : Below w.heap.size w w') => pM w' F hF A c (hmod.below hb)
 unfold Me at o0
 unfold Oi Dj
 have e1 : ∀ A c, Ax F A c = .agg #[nQ F.p, .int .i64 ((F.m + 1 : Nat) : Int), .slice A (modL F).length c] := fun _ _ => rfl
 simp only [e1] at o0 ⊢
 have j2 := sK o0
 unfold matV
 clear o0 hmod e1
 generalize (modL F).length = mL at *
 generalize F.m + 1 = M at *
 go_enter Tryz.func28, Tryz.ntmps28
 go_upto_region 3 with fail
 obtain ⟨W, hW⟩ := xQ (((w.alloc (.cells #[nQ F.p, nQ M, .slice A mL c] 24)).alloc (.cells #[nQ N, .slice B k cg] 52)).alloc (.cells #[zQ, zQ, eQ, zQ, eQ] 27))
 have o2 : W.heap.size = w.heap.size + 3 := by rw [hW]; simp
 have i0 : Below w.heap.size w W := by rw [hW]; exact (((bR).alloc (qb _) _).alloc (by simp) _).alloc (by simp; omega) _
 have m1 : Blk W w.heap.size #[nQ F.p, nQ M, .slice A mL c] := by rw [hW]; exact ((Blk.new _ _ _).alloc _).alloc _
 have n1 : Blk W (w.heap.size + 1) #[nQ N, .slice B k cg] := by
  rw [hW]; have h9 := (Blk.new (w.alloc (.cells #[nQ F.p, nQ M, .slice A mL c] 24)) #[nQ N, .slice B k cg] 52).alloc (.cells #[zQ, zQ, eQ, zQ, eQ] 27)
  rwa [qi] at h9
 have l1 : Blk W (w.heap.size + 1 + 1) #[zQ, zQ, eQ, zQ, eQ] := by
  rw [hW]; have h9 := Blk.new ((w.alloc (.cells #[nQ F.p, nQ M, .slice A mL c] 24)).alloc (.cells #[nQ N, .slice B k cg] 52)) #[zQ, zQ, eQ, zQ, eQ] 27
  rwa [qi, qi] at h9
 rw [<- hW]
 clear hW
 have y1 : Hid (∀ wx, From W wx -> wx.cell? ⟨w.heap.size, 0, none⟩ = some (nQ F.p) ∧ wx.cell? ⟨w.heap.size, 1, none⟩ = some (nQ M) ∧ wx.cell? ⟨w.heap.size, 2, none⟩ = some (.slice A mL c)) := sK fun wx hx =>
  have h9 := m1.below hx
  ⟨h9.c0, h9.c1, h9.c2⟩
 have i2 : Hid (∀ wx, From W wx -> wx.cell? ⟨w.heap.size + 1, 0, none⟩ = some (nQ N) ∧ wx.cell? ⟨w.heap.size + 1, 1, none⟩ = some (.slice B k cg)) := sK fun wx hx =>
  have h9 := n1.below hx
  ⟨h9.c0, h9.c1⟩
 have w1 := sK l1
 have g0 := sK i0
 have n2 : From W W := From.refl W
 clear m1 n1 l1 i0
 refine wpT 7 19 [.v (.agg #[nQ F.p, nQ M, .slice A mL c]), .r (Pg W.heap.size F mL M) Pg.lasting, .v (pQ (w.heap.size + 1)), .v (nQ N), .v (.pointer (some ⟨w.heap.size + 1, 1, none⟩)), .v (.slice B k cg), .r (Um W.heap.size F mL M N B k cg) Um.lasting] W (by kernel_rfl) (by kernel_rfl) (by kernel_rfl) rfl (From.drew n2) ?_
 simp only [Tk]
 refine .z (fun wx hx _ hK => by obtain ⟨o1, r1, p2⟩ := y1 wx hx; go_simp; exact Kz hK) ?_; simp only [Pt]
 refine .r (fun wx hx hd KK hK => ?_) (fun x2 => ?_)
 ·clear hd
  go_simp; refine (j2 wx (g0.trans (qf hx (by omega)))).mono ?_; rintro e w' ⟨A', c', rfl, s2, r2, j0⟩; exact hK.out _ _ ⟨A', c', rfl, s2, fun b f0 e h0 => qs hx.size (r2 b f0 e h0)⟩ j0
 simp only [Pt]
 iterate 4 (refine .z (fun wx hx _ hK => by first | (go_simp; exact Kz hK) | (obtain ⟨o1, r1⟩ := i2 wx hx; go_simp; exact Kz hK)) ?_; simp only [Pt])
 refine .r (fun wx hx hd KK hK => ?_) (fun y2 => ?_)
 ·obtain ⟨g1, i1, rfl, v0, f1⟩ := hd _ (.head _) (by kernel_rfl)
  clear hd; go_simp; exact hK.out _ _ ⟨g1, i1, rfl, v0, f1⟩ (bR)
 simp only [Pt]
 refine .nil fun w3 z0 hd => ?_
 obtain ⟨g1, i1, rfl, v0, f1⟩ := hd _ (.tail _ (.head _))
 obtain ⟨l0, m0, rfl, j1, u1⟩ := hd _ (.head _)
 clear hd
 have e0 := w1.below z0
 have d0 := e0.free 0
 have d1 := e0.free 1
 have d2 := e0.free 2
 have d3 := e0.free 3
 have d4 := e0.free 4
 have c0 : w3.cell? ⟨w.heap.size + 1 + 1, 0, none⟩ = some (zQ) := e0.c0
 have c1 : w3.cell? ⟨w.heap.size + 1 + 1, 1, none⟩ = some (zQ) := e0.c1
 have c2 : w3.cell? ⟨w.heap.size + 1 + 1, 2, none⟩ = some (eQ) := e0.c2
 have c3 : w3.cell? ⟨w.heap.size + 1 + 1, 3, none⟩ = some (zQ) := e0.c3
 have c4 : w3.cell? ⟨w.heap.size + 1 + 1, 4, none⟩ = some (eQ) := e0.c4
 have x1 := sK e0
 have m2 := sK z0
 have HO := sK u1
 have k2 := sK j1
 clear e0 z0 u1 j1 v0 f1
 go_wp2
 have hE := ((((x1.set 0 (nQ F.p)).set 1 (nQ M)).set 2 (.slice l0 mL m0)).set 3 (nQ N)).set 4 (.slice B k cg)
 obtain ⟨q0, q1, q2, q3, q4⟩ := hE.t5
 have s1 := ((((Ad w3 (w.heap.size + 1 + 1) 0 (nQ F.p)).trans (Ad _ (w.heap.size + 1 + 1) 1 (nQ M))).trans (Ad _ (w.heap.size + 1 + 1) 2 (.slice l0 mL m0))).trans (Ad _ (w.heap.size + 1 + 1) 3 (nQ N))).trans (Ad _ (w.heap.size + 1 + 1) 4 (.slice B k cg))
 have hB := g0.trans (qf m2 (by omega))
 refine bodyPost_ret (v := .tuple #[.agg #[nQ F.p, nQ M, .slice l0 mL m0, nQ N, .slice B k cg], zQ]) (by simp [results, Tryz.results28, go_sem, q0, q1, q2, q3, q4]) rfl ⟨l0, m0, rfl, k2.kept s1 (fun b f0 e h0 => by have := HO b f0 e h0; omega), fun b f0 e h0 => by have := HO b f0 e h0; omega, hB.grown s1 hB.size (fun k9 y0 => by simp at y0; omega)⟩
theorem Fj (w : WQ) (F : FD) (hF : F.Ok) (A : OQ) (c : Nat) (hmod : RdN w A (modL F).length c (modL F)) (N k cg : Nat) (B : OQ) (R : LQ) (P : NQ) (hR : RdM w B k cg R) (hRr : Rref F.fld N R P) (hN0 : 0 < N) (hN9 : N <= 64) (y0 : k <= 256) :
  cQ 23 #[Dj F A c N B k cg] w (Ah (zQ) w) := by
 have x0 := fun (w' : WQ) (hb : Below w.heap.size w w') => Po w' F hF A c (hmod.below hb)
 have n0 := fun (w' : WQ) => Nz w' F A c N k cg B
 have t1 := fun (w' : WQ) => Pa w' N hN0 hN9
 have r0 := fun (w' : WQ) (hb : Below w.heap.size w w') => Xr w' F hF A c (hmod.below hb) N k cg B R P (hR.below hb) hRr hN0 (by omega) y0
 have e1 : Ax F A c = .agg #[nQ F.p, .int .i64 ((F.m + 1 : Nat) : Int), .slice A (modL F).length c] := rfl
 have e2 : Dj F A c N B k cg = .agg #[nQ F.p, .int .i64 ((F.m + 1 : Nat) : Int), .slice A (modL F).length c, nQ N, .slice B k cg] := rfl
 rw [e2] at n0 ⊢
 rw [e1] at x0 r0
 unfold matV at n0 r0
 have z1 := sK x0
 have f2 := sK n0
 have g2 := sK t1
 have l2 := sK r0
 clear x0 n0 t1 r0 e1 e2 hmod hR hRr
 generalize (modL F).length = mL at *
 generalize F.m + 1 = M at *
 go_enter Tryz.func23, Tryz.ntmps23
 go_upto_region 1 with fail
 obtain ⟨W, hW⟩ := xQ (w.alloc (.cells #[nQ F.p, nQ M, .slice A mL c, nQ N, .slice B k cg] 27))
 have o2 : W.heap.size = w.heap.size + 1 := by rw [hW]; simp
 have i0 : Below w.heap.size w W := by rw [hW]; exact Ac _ _
 have k1 : Blk W w.heap.size #[nQ F.p, nQ M, .slice A mL c, nQ N, .slice B k cg] := by rw [hW]; exact Blk.new _ _ _
 rw [<- hW]
 clear hW
 have t0 : Hid (∀ wx, From W wx -> wx.cell? ⟨w.heap.size, 0, none⟩ = some (nQ F.p) ∧ wx.cell? ⟨w.heap.size, 1, none⟩ = some (nQ M) ∧ wx.cell? ⟨w.heap.size, 2, none⟩ = some (.slice A mL c) ∧ wx.cell? ⟨w.heap.size, 3, none⟩ = some (nQ N) ∧ wx.cell? ⟨w.heap.size, 4, none⟩ = some (.slice B k cg)) := sK fun wx hx =>
  have h9 := k1.below hx
  ⟨h9.c0, h9.c1, h9.c2, h9.c3, h9.c4⟩
 have g0 := sK i0
 obtain ⟨a0, a1, a2, a3, a4⟩ := t0 W (From.refl W)
 clear k1 i0
 go_upto_region 3 with (go_at_call 51; refine (z1 W g0.out).mono ?_; rintro e w2 ⟨rfl, w0⟩)
 have v1 := sK w0
 obtain ⟨b0, b1, b2, b3, b4⟩ := t0 w2 w0
 clear w0 a0 a1 a2 a3 a4
 go_upto_region 6 with (go_at_call 52; refine (g2 w2).mono ?_; rintro e w3 ⟨rfl, rfl⟩)
 clear b0 b1 b2 b3 b4
 refine wpT 6 19 [.v (pQ w.heap.size), .v (.agg #[nQ F.p, nQ M, .slice A mL c]), .v (.agg #[nQ F.p, nQ M, .slice A mL c, nQ N, .slice B k cg]), .v (.agg #[nQ N, .slice B k cg]), .v (zQ), .v (zQ)] W (by kernel_rfl) (by kernel_rfl) (by kernel_rfl) rfl (From.drew v1.out) ?_
 simp only [Tk]
 iterate 6 (refine .z (fun wx hx _ hK => by first | (go_simp; exact Kz hK) | (obtain ⟨o1, r1, p2, u2, v2⟩ := t0 wx hx; go_simp; exact Kz hK) | (go_simp; refine (f2 wx).mono ?_; rintro e w' ⟨rfl, j0⟩; exact hK.out _ _ rfl j0) | (go_simp; refine (l2 wx (g0.trans (qf hx (by omega)))).mono ?_; rintro e w' ⟨rfl, j0⟩; exact hK.out _ _ rfl j0)) ?_; simp only [Pt])
 refine .nil fun w4 t2 _ => ?_
 go_wp2
 go_ret
 exact ⟨rfl, g0.trans (qf t2 (by omega))⟩
end Go.Proofs.YtoalkldfhkabnaaGreatDoor
