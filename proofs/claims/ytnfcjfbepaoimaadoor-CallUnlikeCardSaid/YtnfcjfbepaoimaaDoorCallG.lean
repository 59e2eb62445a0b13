/- Package call: the call of bytes. -/
import Derived.Test.YtnfcjfbepaoimaaDoorCallG0
set_option linter.unusedVariables false
set_option linter.unusedSimpArgs false
namespace Go.Proofs.YtnfcjfbepaoimaaDoor
open Go.RowKit

/-- A call is read. -/
def gCall (s : RS) : CallV × RS :=
  let r0 := rU32 s
  let r1 := rU32 r0.2
  let r2 := rU32 r1.2
  let r3 := rHdl r2.2
  let r4 := rOpaque r3.2 64
  let r5 := rHdl r4.2
  let r6 := rOpaque r5.2 64
  let r7 := rU64 r6.2
  let r8 := rU64 r7.2
  let r9 := rU32 r8.2
  let r10 := rU32 r9.2
  let r11 := rOpaque r10.2 1024
  ({ client := r0.1, xid := r1.1, op := r2.1, atI := r3.1.1, atG := r3.1.2, name := ⟨r4.1.toArray⟩, toI := r5.1.1, toG := r5.1.2, toName := ⟨r6.1.toArray⟩, offset := r7.1, verf := r8.1, count := r9.1, mode := r10.1, data := r11.1 }, r11.2)
def noCall : CallV := { client := 0, xid := 0, op := 0, atI := 0, atG := 0, name := ⟨#[]⟩, toI := 0, toG := 0, toName := ⟨#[]⟩, offset := 0, verf := 0, count := 0, mode := 0, data := [] }
def getC (b : List UInt8) : CallV × Int :=
  if rEnd (gCall (b, 0)).2 ≠ 0 then (noCall, rEnd (gCall (b, 0)).2) else if knownOp (gCall (b, 0)).1.op then ((gCall (b, 0)).1, 0) else (noCall, 11)

/-- A call in memory of one's own, and an error. -/
def OutC (W : World) (x : CallV × Int) : Ending → World → Prop := fun r W' =>
  ∃ a q, r = .returned (.tuple #[.agg (x.1.cells a q), .int .i64 x.2]) ∧ x.1.data.length ≤ q ∧ Rd W' W'.heap.size a (bys x.1.data) ∧ Kp Nn W W'

theorem finC {W W2 : World} {c : CallV} {a : Option Addr} {q : Nat} {zs : Array Value} {T : TypeId} (hk : Kp Nn W W2) (hb2 : W2.heap[W.heap.size]? = some (.cells zs T (0, 0))) (hz : zs.size = 14) (hno : noU8 zs.toList = true) (hr : Rd W2 W2.heap.size a (bys c.data)) :
    (setAll W.heap.size W2 0 (c.cells a q).toList).heap[W.heap.size]? = some (.cells (c.cells a q) T (0, 0)) ∧ Kp Nn W (setAll W.heap.size W2 0 (c.cells a q).toList) ∧ Rd (setAll W.heap.size W2 0 (c.cells a q).toList) (setAll W.heap.size W2 0 (c.cells a q).toList).heap.size a (bys c.data) := by
  have k := setAll_kp (b := W.heap.size) (c.cells a q).toList W2 0
  refine ⟨setAll_whole hb2 (by rw [hz]; rfl), hk.then k (fun i o hi _ x => by have := lt_of_blk hi; have : i = W.heap.size := x; omega), (hr.apart hb2 hno k).mono k.size⟩

set_option maxRecDepth 100000 in
set_option maxHeartbeats 4000000 in
theorem getCall_any (W : World) (N : Nat) (a : Option Addr) (q : Nat) (b : List UInt8) (h : Rd W N a (bys b)) (hb : b.length ≤ 70368744177664) :
    Calls Tryd.prog 16 #[.slice a b.length q] W (OutC W (getC b)) := by
  obtain ⟨x0, s0, e0⟩ : ∃ x s, rU32 (b, 0) = (x, s) := ⟨_, _, rfl⟩
  obtain ⟨x1, s1, e1⟩ : ∃ x s, rU32 s0 = (x, s) := ⟨_, _, rfl⟩
  obtain ⟨x2, s2, e2⟩ : ∃ x s, rU32 s1 = (x, s) := ⟨_, _, rfl⟩
  obtain ⟨⟨i3, g3⟩, s3, e3⟩ : ∃ x s, rHdl s2 = (x, s) := ⟨_, _, rfl⟩
  obtain ⟨x4, s4, e4⟩ : ∃ x s, rOpaque s3 64 = (x, s) := ⟨_, _, rfl⟩
  obtain ⟨⟨i5, g5⟩, s5, e5⟩ : ∃ x s, rHdl s4 = (x, s) := ⟨_, _, rfl⟩
  obtain ⟨x6, s6, e6⟩ : ∃ x s, rOpaque s5 64 = (x, s) := ⟨_, _, rfl⟩
  obtain ⟨x7, s7, e7⟩ : ∃ x s, rU64 s6 = (x, s) := ⟨_, _, rfl⟩
  obtain ⟨x8, s8, e8⟩ : ∃ x s, rU64 s7 = (x, s) := ⟨_, _, rfl⟩
  obtain ⟨x9, s9, e9⟩ : ∃ x s, rU32 s8 = (x, s) := ⟨_, _, rfl⟩
  obtain ⟨x10, s10, e10⟩ : ∃ x s, rU32 s9 = (x, s) := ⟨_, _, rfl⟩
  obtain ⟨x11, s11, e11⟩ : ∃ x s, rOpaque s10 1024 = (x, s) := ⟨_, _, rfl⟩
  have eg : gCall (b, 0) = (({ client := x0, xid := x1, op := x2, atI := i3, atG := g3, name := ⟨x4.toArray⟩, toI := i5, toG := g5, toName := ⟨x6.toArray⟩, offset := x7, verf := x8, count := x9, mode := x10, data := x11 } : CallV), s11) := by simp only [gCall, e0, e1, e2, e3, e4, e5, e6, e7, e8, e9, e10, e11]
  have bop : x2 < 4294967296 := by have := rU32_lt s1; rw [e2] at this; exact this
  replace eg := Hid.mk eg
  replace e0 := Hid.mk e0
  replace e1 := Hid.mk e1
  replace e2 := Hid.mk e2
  replace e3 := Hid.mk e3
  replace e4 := Hid.mk e4
  replace e5 := Hid.mk e5
  replace e6 := Hid.mk e6
  replace e7 := Hid.mk e7
  replace e8 := Hid.mk e8
  replace e9 := Hid.mk e9
  replace e10 := Hid.mk e10
  replace e11 := Hid.mk e11
  have hb0 := blk_new W (.cells #[.int .u32 0, .int .u32 0, .int .u32 0, .int .u32 0, .int .u32 0, .string ⟨#[]⟩, .int .u32 0, .int .u32 0, .string ⟨#[]⟩, .int .u64 0, .int .u64 0, .int .u32 0, .int .u32 0, .slice none 0 0] 50)
  have hr0 : Rd (W.alloc (.cells #[.int .u32 0, .int .u32 0, .int .u32 0, .int .u32 0, .int .u32 0, .string ⟨#[]⟩, .int .u32 0, .int .u32 0, .string ⟨#[]⟩, .int .u64 0, .int .u64 0, .int .u32 0, .int .u32 0, .slice none 0 0] 50)) N a (bys b) := h.alloc _
  have k0 : Kp Nn W (W.alloc (.cells #[.int .u32 0, .int .u32 0, .int .u32 0, .int .u32 0, .int .u32 0, .string ⟨#[]⟩, .int .u32 0, .int .u32 0, .string ⟨#[]⟩, .int .u64 0, .int .u64 0, .int .u32 0, .int .u32 0, .slice none 0 0] 50)) := (Kp.refl _ _).alloc _
  have hz0 : W.heap.size < (W.alloc (.cells #[.int .u32 0, .int .u32 0, .int .u32 0, .int .u32 0, .int .u32 0, .string ⟨#[]⟩, .int .u32 0, .int .u32 0, .string ⟨#[]⟩, .int .u64 0, .int .u64 0, .int .u32 0, .int .u32 0, .slice none 0 0] 50)).heap.size := by simp
  replace hb0 := Hid.mk hb0
  replace hr0 := Hid.mk hr0
  replace k0 := Hid.mk k0
  replace hz0 := Hid.mk hz0
  clear h
  go_enter Tryd.func16, Tryd.ntmps16
  go_wp2_with fail
  refine (gNew _ N a q b hr0.out hb).mono ?_
  rintro e W1 ⟨rb, rfl, hs, kz⟩
  generalize W.alloc (.cells #[.int .u32 0, .int .u32 0, .int .u32 0, .int .u32 0, .int .u32 0, .string ⟨#[]⟩, .int .u32 0, .int .u32 0, .string ⟨#[]⟩, .int .u64 0, .int .u64 0, .int .u32 0, .int .u32 0, .slice none 0 0] 50) = W0 at *
  have H := GB.start hs #[.int .u32 0, .int .u32 0, .int .u32 0, .int .u32 0, .int .u32 0, .string ⟨#[]⟩, .int .u32 0, .int .u32 0, .string ⟨#[]⟩, .int .u64 0, .int .u64 0, .int .u32 0, .int .u32 0, .slice none 0 0] 50
  replace H := Hid.mk H
  clear kz hs
  go_wp2_with fail
  generalize W1.alloc (.cells #[.int .u32 0, .int .u32 0, .int .u32 0, .int .u32 0, .int .u32 0, .string ⟨#[]⟩, .int .u32 0, .int .u32 0, .string ⟨#[]⟩, .int .u64 0, .int .u64 0, .int .u32 0, .int .u32 0, .slice none 0 0] 50) = W2 at *
  generalize W1.heap.size = pb at *
  -- client
  refine (gU32 H.out.1).mono ?_
  rintro e W3 ⟨rfl, hs3, k3⟩
  rw [e0.out] at hs3 ⊢
  dsimp only at hs3 ⊢
  replace H := H.out.call hs3 k3
  have c0 := H.cell 0
  simp at c0
  have f0 := H.frozen 0
  replace H := Hid.mk (H.set 0 (.int .u32 (x0 : Int)))
  clear hs3 k3
  go_wp2_with fail
  generalize W3.setCell ⟨pb, 0, none⟩ (.int .u32 (x0 : Int)) = W2 at *
  clear c0 f0
  -- xid
  refine (gU32 H.out.1).mono ?_
  rintro e W3 ⟨rfl, hs3, k3⟩
  rw [e1.out] at hs3 ⊢
  dsimp only at hs3 ⊢
  replace H := H.out.call hs3 k3
  have c0 := H.cell 1
  simp at c0
  have f0 := H.frozen 1
  replace H := Hid.mk (H.set 1 (.int .u32 (x1 : Int)))
  clear hs3 k3
  go_wp2_with fail
  generalize W3.setCell ⟨pb, 1, none⟩ (.int .u32 (x1 : Int)) = W2 at *
  clear c0 f0
  -- op
  refine (gU32 H.out.1).mono ?_
  rintro e W3 ⟨rfl, hs3, k3⟩
  rw [e2.out] at hs3 ⊢
  dsimp only at hs3 ⊢
  replace H := H.out.call hs3 k3
  have c0 := H.cell 2
  simp at c0
  have f0 := H.frozen 2
  replace H := Hid.mk (H.set 2 (.int .u32 (x2 : Int)))
  clear hs3 k3
  go_wp2_with fail
  generalize W3.setCell ⟨pb, 2, none⟩ (.int .u32 (x2 : Int)) = W2 at *
  clear c0 f0
  -- at
  refine (got_any H.out.1).mono ?_
  rintro e W3 ⟨rfl, hs3, k3⟩
  rw [e3.out] at hs3 ⊢
  dsimp only at hs3 ⊢
  replace H := H.out.call hs3 k3
  have c0 := H.cell 3
  have c1 := H.cell 4
  simp at c0 c1
  have f0 := H.frozen 3
  have f1 := H.frozen 4
  replace H := Hid.mk ((H.set 3 (.int .u32 (i3 : Int))).set 4 (.int .u32 (g3 : Int)))
  clear hs3 k3
  go_wp2_with fail
  generalize (W3.setCell ⟨pb, 3, none⟩ (.int .u32 (i3 : Int))).setCell ⟨pb, 4, none⟩ (.int .u32 (g3 : Int)) = W2 at *
  clear c0 c1 f0 f1
  -- name
  refine (gOpaque H.out.1 64 (by omega) (by omega)).mono ?_
  rw [show (64 : Int).toNat = 64 from rfl, e4.out]
  dsimp only
  rintro e W3 ⟨⟨a4, q4, rfl, hq4, r4⟩, hs3, k3⟩
  have hcv := run_b2s (P := Tryd.prog) W3 29 9 5 W3.heap.size q4 a4 x4 Tryd.underlying29 Tryd.underlying5 Tryd.underlying9 r4
  replace H := H.out.call hs3 k3
  have c0 := H.cell 5
  simp at c0
  have f0 := H.frozen 5
  replace H := Hid.mk (H.set 5 (.string ⟨x4.toArray⟩))
  clear hs3 k3 r4
  go_wp2_with fail
  generalize hW4 : W3.setCell ⟨pb, 5, none⟩ (.string ⟨x4.toArray⟩) = W2 at *
  clear c0 f0 hW4 hcv
  -- to
  refine (got_any H.out.1).mono ?_
  rintro e W3 ⟨rfl, hs3, k3⟩
  rw [e5.out] at hs3 ⊢
  dsimp only at hs3 ⊢
  replace H := H.out.call hs3 k3
  have c0 := H.cell 6
  have c1 := H.cell 7
  simp at c0 c1
  have f0 := H.frozen 6
  have f1 := H.frozen 7
  replace H := Hid.mk ((H.set 6 (.int .u32 (i5 : Int))).set 7 (.int .u32 (g5 : Int)))
  clear hs3 k3
  go_wp2_with fail
  generalize (W3.setCell ⟨pb, 6, none⟩ (.int .u32 (i5 : Int))).setCell ⟨pb, 7, none⟩ (.int .u32 (g5 : Int)) = W2 at *
  clear c0 c1 f0 f1
  -- toName
  refine (gOpaque H.out.1 64 (by omega) (by omega)).mono ?_
  rw [show (64 : Int).toNat = 64 from rfl, e6.out]
  dsimp only
  rintro e W3 ⟨⟨a4, q4, rfl, hq4, r4⟩, hs3, k3⟩
  have hcv := run_b2s (P := Tryd.prog) W3 29 9 5 W3.heap.size q4 a4 x6 Tryd.underlying29 Tryd.underlying5 Tryd.underlying9 r4
  replace H := H.out.call hs3 k3
  have c0 := H.cell 8
  simp at c0
  have f0 := H.frozen 8
  replace H := Hid.mk (H.set 8 (.string ⟨x6.toArray⟩))
  clear hs3 k3 r4
  go_wp2_with fail
  generalize hW4 : W3.setCell ⟨pb, 8, none⟩ (.string ⟨x6.toArray⟩) = W2 at *
  clear c0 f0 hW4 hcv
  -- offset
  refine (gU64 H.out.1).mono ?_
  rintro e W3 ⟨rfl, hs3, k3⟩
  rw [e7.out] at hs3 ⊢
  dsimp only at hs3 ⊢
  replace H := H.out.call hs3 k3
  have c0 := H.cell 9
  simp at c0
  have f0 := H.frozen 9
  replace H := Hid.mk (H.set 9 (.int .u64 (x7 : Int)))
  clear hs3 k3
  go_wp2_with fail
  generalize W3.setCell ⟨pb, 9, none⟩ (.int .u64 (x7 : Int)) = W2 at *
  clear c0 f0
  -- verf
  refine (gU64 H.out.1).mono ?_
  rintro e W3 ⟨rfl, hs3, k3⟩
  rw [e8.out] at hs3 ⊢
  dsimp only at hs3 ⊢
  replace H := H.out.call hs3 k3
  have c0 := H.cell 10
  simp at c0
  have f0 := H.frozen 10
  replace H := Hid.mk (H.set 10 (.int .u64 (x8 : Int)))
  clear hs3 k3
  go_wp2_with fail
  generalize W3.setCell ⟨pb, 10, none⟩ (.int .u64 (x8 : Int)) = W2 at *
  clear c0 f0
  -- count
  refine (gU32 H.out.1).mono ?_
  rintro e W3 ⟨rfl, hs3, k3⟩
  rw [e9.out] at hs3 ⊢
  dsimp only at hs3 ⊢
  replace H := H.out.call hs3 k3
  have c0 := H.cell 11
  simp at c0
  have f0 := H.frozen 11
  replace H := Hid.mk (H.set 11 (.int .u32 (x9 : Int)))
  clear hs3 k3
  go_wp2_with fail
  generalize W3.setCell ⟨pb, 11, none⟩ (.int .u32 (x9 : Int)) = W2 at *
  clear c0 f0
  -- mode
  refine (gU32 H.out.1).mono ?_
  rintro e W3 ⟨rfl, hs3, k3⟩
  rw [e10.out] at hs3 ⊢
  dsimp only at hs3 ⊢
  replace H := H.out.call hs3 k3
  have c0 := H.cell 12
  simp at c0
  have f0 := H.frozen 12
  replace H := Hid.mk (H.set 12 (.int .u32 (x10 : Int)))
  clear hs3 k3
  go_wp2_with fail
  generalize W3.setCell ⟨pb, 12, none⟩ (.int .u32 (x10 : Int)) = W2 at *
  clear c0 f0
  -- data
  refine (gOpaque H.out.1 1024 (by omega) (by omega)).mono ?_
  rw [show (1024 : Int).toNat = 1024 from rfl, e11.out]
  dsimp only
  rintro e W3 ⟨⟨a4, q4, rfl, hq4, r4⟩, hs3, k3⟩
  replace H := H.out.call hs3 k3
  have c0 := H.cell 13
  simp at c0
  have f0 := H.frozen 13
  replace r4 := Hid.mk ((r4.set_apart (j := 13) H.2.1 (by simp [noU8]) (.slice a4 x11.length q4)).mono (N' := (W3.setCell ⟨pb, 13, none⟩ (.slice a4 x11.length q4)).heap.size) (by simp [World.setCell]))
  replace H := Hid.mk (H.set 13 (.slice a4 x11.length q4))
  clear hs3 k3
  go_wp2_with fail
  generalize hW4 : W3.setCell ⟨pb, 13, none⟩ (.slice a4 x11.length q4) = W2 at *
  clear c0 f0 hW4
  refine (gEnd H.out.1).mono ?_
  rintro e W5 ⟨rfl, rfl⟩
  have hb2 := H.out.1.2.2.block _ _ hb0.out (fun x => x)
  have d0 := cell_blk hb2 0
  have d1 := cell_blk hb2 1
  have d2 := cell_blk hb2 2
  have d3 := cell_blk hb2 3
  have d4 := cell_blk hb2 4
  have d5 := cell_blk hb2 5
  have d6 := cell_blk hb2 6
  have d7 := cell_blk hb2 7
  have d8 := cell_blk hb2 8
  have d9 := cell_blk hb2 9
  have d10 := cell_blk hb2 10
  have d11 := cell_blk hb2 11
  have d12 := cell_blk hb2 12
  have d13 := cell_blk hb2 13
  simp at d0 d1 d2 d3 d4 d5 d6 d7 d8 d9 d10 d11 d12 d13
  have z0 := frozen_blk hb2 0
  have z1 := frozen_blk hb2 1
  have z2 := frozen_blk hb2 2
  have z3 := frozen_blk hb2 3
  have z4 := frozen_blk hb2 4
  have z5 := frozen_blk hb2 5
  have z6 := frozen_blk hb2 6
  have z7 := frozen_blk hb2 7
  have z8 := frozen_blk hb2 8
  have z9 := frozen_blk hb2 9
  have z10 := frozen_blk hb2 10
  have z11 := frozen_blk hb2 11
  have z12 := frozen_blk hb2 12
  have z13 := frozen_blk hb2 13
  have c0 := H.out.cell 0
  have c1 := H.out.cell 1
  have c2 := H.out.cell 2
  have c3 := H.out.cell 3
  have c4 := H.out.cell 4
  have c5 := H.out.cell 5
  have c6 := H.out.cell 6
  have c7 := H.out.cell 7
  have c8 := H.out.cell 8
  have c9 := H.out.cell 9
  have c10 := H.out.cell 10
  have c11 := H.out.cell 11
  have c12 := H.out.cell 12
  have c13 := H.out.cell 13
  simp at c0 c1 c2 c3 c4 c5 c6 c7 c8 c9 c10 c11 c12 c13
  replace hb2 := Hid.mk hb2
  have k2 := Hid.mk (k0.out.trans H.out.1.2.2)
  have hpb : pb ≠ W.heap.size := by have h1 := H.out.2.2.1; have h2 := H.out.1.2.1; have h3 := hz0.out; omega
  by_cases he : rEnd s11 = 0
  · have he' := Hid.mk he
    rw [he]
    clear he
    cases hk : knownOp x2 with
    | true =>
      have hfin : Hid (getC b = ({ client := x0, xid := x1, op := x2, atI := i3, atG := g3, name := ⟨x4.toArray⟩, toI := i5, toG := g5, toName := ⟨x6.toArray⟩, offset := x7, verf := x8, count := x9, mode := x10, data := x11 }, 0)) := by unfold Hid getC; rw [eg.out]; dsimp only; rw [he'.out, hk]; rfl
      replace hk := Hid.mk hk
      go_wp2_with (go_at_call 49; refine (known_any _ _ bop).mono ?_; rintro e W2 ⟨rfl, rfl⟩; rw [hk.out])
      have F := finC (c := { client := x0, xid := x1, op := x2, atI := i3, atG := g3, name := ⟨x4.toArray⟩, toI := i5, toG := g5, toName := ⟨x6.toArray⟩, offset := x7, verf := x8, count := x9, mode := x10, data := x11 }) (a := a4) (q := q4) k2.out hb2.out rfl rfl r4.out
      show bodyPost _ _ _ _ _ (setAll W.heap.size W2 0 (CallV.cells { client := x0, xid := x1, op := x2, atI := i3, atG := g3, name := ⟨x4.toArray⟩, toI := i5, toG := g5, toName := ⟨x6.toArray⟩, offset := x7, verf := x8, count := x9, mode := x10, data := x11 } a4 q4).toList)
      generalize setAll W.heap.size W2 0 (CallV.cells { client := x0, xid := x1, op := x2, atI := i3, atG := g3, name := ⟨x4.toArray⟩, toI := i5, toG := g5, toName := ⟨x6.toArray⟩, offset := x7, verf := x8, count := x9, mode := x10, data := x11 } a4 q4).toList = Wf at *
      dsimp only [CallV.cells, noCall] at F
      have r0 := cell_blk F.1 0
      have r1 := cell_blk F.1 1
      have r2 := cell_blk F.1 2
      have r3 := cell_blk F.1 3
      have r4 := cell_blk F.1 4
      have r5 := cell_blk F.1 5
      have r6 := cell_blk F.1 6
      have r7 := cell_blk F.1 7
      have r8 := cell_blk F.1 8
      have r9 := cell_blk F.1 9
      have r10 := cell_blk F.1 10
      have r11 := cell_blk F.1 11
      have r12 := cell_blk F.1 12
      have r13 := cell_blk F.1 13
      refine bodyPost_ret (v := .tuple #[.agg (CallV.cells { client := x0, xid := x1, op := x2, atI := i3, atG := g3, name := ⟨x4.toArray⟩, toI := i5, toG := g5, toName := ⟨x6.toArray⟩, offset := x7, verf := x8, count := x9, mode := x10, data := x11 } a4 q4), .int .i64 0]) ?_ rfl ?_
      · simp [results, Tryd.f16, go_sem, CallV.cells, noCall, r0, r1, r2, r3, r4, r5, r6, r7, r8, r9, r10, r11, r12, r13]
      · rw [hfin.out]
        exact ⟨_, _, rfl, hq4, F.2.2, F.2.1⟩
    | false =>
      have hfin : Hid (getC b = (noCall, 11)) := by unfold Hid getC; rw [eg.out]; dsimp only; rw [he'.out, hk]; rfl
      replace hk := Hid.mk hk
      go_wp2_with (go_at_call 49; refine (known_any _ _ bop).mono ?_; rintro e W2 ⟨rfl, rfl⟩; rw [hk.out])
      have F := finC (c := noCall) (a := none) (q := 0) k2.out hb2.out rfl rfl (Rd.nil _ _ _)
      show bodyPost _ _ _ _ _ (setAll W.heap.size W2 0 (CallV.cells noCall none 0).toList)
      generalize setAll W.heap.size W2 0 (CallV.cells noCall none 0).toList = Wf at *
      dsimp only [CallV.cells, noCall] at F
      have r0 := cell_blk F.1 0
      have r1 := cell_blk F.1 1
      have r2 := cell_blk F.1 2
      have r3 := cell_blk F.1 3
      have r4 := cell_blk F.1 4
      have r5 := cell_blk F.1 5
      have r6 := cell_blk F.1 6
      have r7 := cell_blk F.1 7
      have r8 := cell_blk F.1 8
      have r9 := cell_blk F.1 9
      have r10 := cell_blk F.1 10
      have r11 := cell_blk F.1 11
      have r12 := cell_blk F.1 12
      have r13 := cell_blk F.1 13
      refine bodyPost_ret (v := .tuple #[.agg (CallV.cells noCall none 0), .int .i64 11]) ?_ rfl ?_
      · simp [results, Tryd.f16, go_sem, CallV.cells, noCall, r0, r1, r2, r3, r4, r5, r6, r7, r8, r9, r10, r11, r12, r13]
      · rw [hfin.out]
        exact ⟨_, _, rfl, (Nat.le_refl _), F.2.2, F.2.1⟩
  · have hfin : Hid (getC b = (noCall, rEnd s11)) := by unfold Hid getC; rw [eg.out]; dsimp only; rw [if_pos he]
    have hq : (rEnd s11 != 0) = true := by simpa using he
    clear he
    go_wp2_with fail
    have F := finC (c := noCall) (a := none) (q := 0) k2.out hb2.out rfl rfl (Rd.nil _ _ _)
    show bodyPost _ _ _ _ _ (setAll W.heap.size W2 0 (CallV.cells noCall none 0).toList)
    generalize setAll W.heap.size W2 0 (CallV.cells noCall none 0).toList = Wf at *
    dsimp only [CallV.cells, noCall] at F
    have r0 := cell_blk F.1 0
    have r1 := cell_blk F.1 1
    have r2 := cell_blk F.1 2
    have r3 := cell_blk F.1 3
    have r4 := cell_blk F.1 4
    have r5 := cell_blk F.1 5
    have r6 := cell_blk F.1 6
    have r7 := cell_blk F.1 7
    have r8 := cell_blk F.1 8
    have r9 := cell_blk F.1 9
    have r10 := cell_blk F.1 10
    have r11 := cell_blk F.1 11
    have r12 := cell_blk F.1 12
    have r13 := cell_blk F.1 13
    refine bodyPost_ret (v := .tuple #[.agg (CallV.cells noCall none 0), .int .i64 (rEnd s11)]) ?_ rfl ?_
    · simp [results, Tryd.f16, go_sem, CallV.cells, noCall, r0, r1, r2, r3, r4, r5, r6, r7, r8, r9, r10, r11, r12, r13]
    · rw [hfin.out]
      exact ⟨_, _, rfl, (Nat.le_refl _), F.2.2, F.2.1⟩
end Go.Proofs.YtnfcjfbepaoimaaDoor
