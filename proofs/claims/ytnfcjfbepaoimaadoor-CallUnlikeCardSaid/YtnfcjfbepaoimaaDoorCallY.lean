/- Package call: the reply of bytes. -/
import Derived.Test.YtnfcjfbepaoimaaDoorCallR
set_option linter.unusedVariables false
set_option linter.unusedSimpArgs false
namespace Go.Proofs.YtnfcjfbepaoimaaDoor
open Go.RowKit

/-- A reply is read: but for its status and its entries; the status' number, the entries' bytes. -/
def gReply (s : RS) : (ReplyV × Nat × List UInt8) × RS :=
  let r0 := rU32 s
  let r1 := rU32 r0.2
  let r2 := rU32 r1.2
  let r3 := rHdl r2.2
  let r4 := rU32 r3.2
  let r5 := rU32 r4.2
  let r6 := rU32 r5.2
  let r7 := rU32 r6.2
  let r8 := rU64 r7.2
  let r9 := rOpaque r8.2 1024
  let r10 := rOpaque r9.2 2048
  let r11 := rBool r10.2
  let r12 := rU64 r11.2
  let r13 := rU32 r12.2
  (({ client := r0.1, xid := r1.1, status := 0, atI := r3.1.1, atG := r3.1.2, kind := r4.1, mode := r5.1, links := r6.1, size := r7.1, change := r8.1, data := r9.1, entries := [], eof := r11.1, verf := r12.1, free := r13.1 }, r2.1, r10.1), r13.2)
def noReply : ReplyV := { client := 0, xid := 0, status := 0, atI := 0, atG := 0, kind := 0, mode := 0, links := 0, size := 0, change := 0, data := [], entries := [], eof := false, verf := 0, free := 0 }
def getR (b : List UInt8) : ReplyV × Int :=
  if rEnd (gReply (b, 0)).2 ≠ 0 then (noReply, rEnd (gReply (b, 0)).2)
  else if (getD (gReply (b, 0)).1.2.2).2 ≠ 0 then (noReply, (getD (gReply (b, 0)).1.2.2).2)
  else if okStatus (gReply (b, 0)).1.2.1 && decide ((getD (gReply (b, 0)).1.2.2).1.length ≤ 24) then ({ (gReply (b, 0)).1.1 with status := ((gReply (b, 0)).1.2.1 : Int), entries := (getD (gReply (b, 0)).1.2.2).1 }, 0)
  else (noReply, 11)

/-- A reply in memory of one's own, and an error. -/
def OutR (W : World) (x : ReplyV × Int) : Ending → World → Prop := fun r W' =>
  ∃ a q a2 q2, r = .returned (.tuple #[.agg (x.1.cells a q a2 q2), .int .i64 x.2]) ∧ x.1.data.length ≤ q ∧ x.1.entries.length ≤ q2 ∧ Rd W' W'.heap.size a (bys x.1.data) ∧ Rd W' W'.heap.size a2 (eCells x.1.entries) ∧ Kp Nn W W'

theorem finR {W W2 : World} {c : ReplyV} {a a2 : Option Addr} {q q2 : Nat} {zs : Array Value} {T : TypeId} (hk : Kp Nn W W2) (hb2 : W2.heap[W.heap.size]? = some (.cells zs T (0, 0))) (hz : zs.size = 15) (hno : noU8 zs.toList = true) (hr : Rd W2 W2.heap.size a (bys c.data))
    (hr2 : Rd W2 W2.heap.size a2 (eCells c.entries)) (hfr : ∀ k o, a2 = some ⟨k, o, none⟩ → W.heap.size < k) :
    (setAll W.heap.size W2 0 (c.cells a q a2 q2).toList).heap[W.heap.size]? = some (.cells (c.cells a q a2 q2) T (0, 0)) ∧ Kp Nn W (setAll W.heap.size W2 0 (c.cells a q a2 q2).toList) ∧
      Rd (setAll W.heap.size W2 0 (c.cells a q a2 q2).toList) (setAll W.heap.size W2 0 (c.cells a q a2 q2).toList).heap.size a (bys c.data) ∧
      Rd (setAll W.heap.size W2 0 (c.cells a q a2 q2).toList) (setAll W.heap.size W2 0 (c.cells a q a2 q2).toList).heap.size a2 (eCells c.entries) := by
  have k := setAll_kp (b := W.heap.size) (c.cells a q a2 q2).toList W2 0
  refine ⟨setAll_whole hb2 (by rw [hz]; rfl), hk.then k (fun i o hi _ x => by have := lt_of_blk hi; have : i = W.heap.size := x; omega), (hr.apart hb2 hno k).mono k.size, (hr2.kpa k (fun b o e x y => by have := hfr b o e; have : b = W.heap.size := y; omega)).mono k.size⟩

set_option maxRecDepth 100000 in
set_option maxHeartbeats 8000000 in
theorem getReply_any (W : World) (N : Nat) (a : Option Addr) (q : Nat) (b : List UInt8) (h : Rd W N a (bys b)) (hb : b.length ≤ 70368744177664) :
    Calls Tryd.prog 12 #[.slice a b.length q] W (OutR W (getR b)) := by
  obtain ⟨x0, s0, e0⟩ : ∃ x s, rU32 (b, 0) = (x, s) := ⟨_, _, rfl⟩
  obtain ⟨x1, s1, e1⟩ : ∃ x s, rU32 s0 = (x, s) := ⟨_, _, rfl⟩
  obtain ⟨x2, s2, e2⟩ : ∃ x s, rU32 s1 = (x, s) := ⟨_, _, rfl⟩
  obtain ⟨⟨i3, g3⟩, s3, e3⟩ : ∃ x s, rHdl s2 = (x, s) := ⟨_, _, rfl⟩
  obtain ⟨x4, s4, e4⟩ : ∃ x s, rU32 s3 = (x, s) := ⟨_, _, rfl⟩
  obtain ⟨x5, s5, e5⟩ : ∃ x s, rU32 s4 = (x, s) := ⟨_, _, rfl⟩
  obtain ⟨x6, s6, e6⟩ : ∃ x s, rU32 s5 = (x, s) := ⟨_, _, rfl⟩
  obtain ⟨x7, s7, e7⟩ : ∃ x s, rU32 s6 = (x, s) := ⟨_, _, rfl⟩
  obtain ⟨x8, s8, e8⟩ : ∃ x s, rU64 s7 = (x, s) := ⟨_, _, rfl⟩
  obtain ⟨x9, s9, e9⟩ : ∃ x s, rOpaque s8 1024 = (x, s) := ⟨_, _, rfl⟩
  obtain ⟨x10, s10, e10⟩ : ∃ x s, rOpaque s9 2048 = (x, s) := ⟨_, _, rfl⟩
  obtain ⟨x11, s11, e11⟩ : ∃ x s, rBool s10 = (x, s) := ⟨_, _, rfl⟩
  obtain ⟨x12, s12, e12⟩ : ∃ x s, rU64 s11 = (x, s) := ⟨_, _, rfl⟩
  obtain ⟨x13, s13, e13⟩ : ∃ x s, rU32 s12 = (x, s) := ⟨_, _, rfl⟩
  have eg : gReply (b, 0) = ((({ client := x0, xid := x1, status := 0, atI := i3, atG := g3, kind := x4, mode := x5, links := x6, size := x7, change := x8, data := x9, entries := [], eof := x11, verf := x12, free := x13 } : ReplyV), x2, x10), s13) := by simp only [gReply, e0, e1, e2, e3, e4, e5, e6, e7, e8, e9, e10, e11, e12, e13]
  have bn : x2 < 4294967296 := by have := rU32_lt s1; rw [e2] at this; exact this
  have brow : x10.length ≤ 2048 := by have := rOpaque_len s9 2048; rw [e10] at this; exact this
  replace eg := Hid.mk eg
  replace e0 := Hid.mk e0
  replace e1 := Hid.mk e1
  replace e2 := Hid.mk e2
  replace e3 := Hid.mk e3
  replace e4 := Hid.mk e4
  replace e5 := Hid.mk e5
  replace e6 := Hid.mk e6
  replace e7 := Hid.mk e7
  replace e8 := Hid.mk e8
  replace e9 := Hid.mk e9
  replace e10 := Hid.mk e10
  replace e11 := Hid.mk e11
  replace e12 := Hid.mk e12
  replace e13 := Hid.mk e13
  have hb0 := blk_new W (.cells #[.int .u32 0, .int .u32 0, .int .i64 0, .int .u32 0, .int .u32 0, .int .u32 0, .int .u32 0, .int .u32 0, .int .u32 0, .int .u64 0, .slice none 0 0, .slice none 0 0, .bool false, .int .u64 0, .int .u32 0] 32)
  have hr0 : Rd (W.alloc (.cells #[.int .u32 0, .int .u32 0, .int .i64 0, .int .u32 0, .int .u32 0, .int .u32 0, .int .u32 0, .int .u32 0, .int .u32 0, .int .u64 0, .slice none 0 0, .slice none 0 0, .bool false, .int .u64 0, .int .u32 0] 32)) N a (bys b) := h.alloc _
  have k0 : Kp Nn W (W.alloc (.cells #[.int .u32 0, .int .u32 0, .int .i64 0, .int .u32 0, .int .u32 0, .int .u32 0, .int .u32 0, .int .u32 0, .int .u32 0, .int .u64 0, .slice none 0 0, .slice none 0 0, .bool false, .int .u64 0, .int .u32 0] 32)) := (Kp.refl _ _).alloc _
  have hz0 : W.heap.size < (W.alloc (.cells #[.int .u32 0, .int .u32 0, .int .i64 0, .int .u32 0, .int .u32 0, .int .u32 0, .int .u32 0, .int .u32 0, .int .u32 0, .int .u64 0, .slice none 0 0, .slice none 0 0, .bool false, .int .u64 0, .int .u32 0] 32)).heap.size := by simp
  replace hb0 := Hid.mk hb0
  replace hr0 := Hid.mk hr0
  replace k0 := Hid.mk k0
  replace hz0 := Hid.mk hz0
  clear h
  go_enter Tryd.func12, Tryd.ntmps12
  go_wp2_with fail
  refine (gNew _ N a q b hr0.out hb).mono ?_
  rintro e W1 ⟨rb, rfl, hs, kz⟩
  generalize W.alloc (.cells #[.int .u32 0, .int .u32 0, .int .i64 0, .int .u32 0, .int .u32 0, .int .u32 0, .int .u32 0, .int .u32 0, .int .u32 0, .int .u64 0, .slice none 0 0, .slice none 0 0, .bool false, .int .u64 0, .int .u32 0] 32) = W0 at *
  have H := GB.start hs #[.int .u32 0, .int .u32 0, .int .i64 0, .int .u32 0, .int .u32 0, .int .u32 0, .int .u32 0, .int .u32 0, .int .u32 0, .int .u64 0, .slice none 0 0, .slice none 0 0, .bool false, .int .u64 0, .int .u32 0] 32
  replace H := Hid.mk H
  clear kz hs
  go_wp2_with fail
  generalize W1.alloc (.cells #[.int .u32 0, .int .u32 0, .int .i64 0, .int .u32 0, .int .u32 0, .int .u32 0, .int .u32 0, .int .u32 0, .int .u32 0, .int .u64 0, .slice none 0 0, .slice none 0 0, .bool false, .int .u64 0, .int .u32 0] 32) = W2 at *
  generalize W1.heap.size = pb at *
  -- client
  refine (gU32 H.out.1).mono ?_
  rintro e W3 ⟨rfl, hs3, k3⟩
  rw [e0.out] at hs3 ⊢
  dsimp only at hs3 ⊢
  replace H := H.out.call hs3 k3
  have c0 := H.cell 0
  simp at c0
  have f0 := H.frozen 0
  replace H := Hid.mk (H.set 0 (.int .u32 (x0 : Int)))
  clear hs3 k3
  go_wp2_with fail
  generalize W3.setCell ⟨pb, 0, none⟩ (.int .u32 (x0 : Int)) = W2 at *
  clear c0 f0
  -- xid
  refine (gU32 H.out.1).mono ?_
  rintro e W3 ⟨rfl, hs3, k3⟩
  rw [e1.out] at hs3 ⊢
  dsimp only at hs3 ⊢
  replace H := H.out.call hs3 k3
  have c0 := H.cell 1
  simp at c0
  have f0 := H.frozen 1
  replace H := Hid.mk (H.set 1 (.int .u32 (x1 : Int)))
  clear hs3 k3
  go_wp2_with fail
  generalize W3.setCell ⟨pb, 1, none⟩ (.int .u32 (x1 : Int)) = W2 at *
  clear c0 f0
  -- n
  refine (gU32 H.out.1).mono ?_
  rintro e W3 ⟨rfl, hs3, k3⟩
  rw [e2.out] at hs3 ⊢
  dsimp only at hs3 ⊢
  replace H := Hid.mk (H.out.call hs3 k3)
  clear hs3 k3
  go_wp2_with fail
  -- at
  refine (got_any H.out.1).mono ?_
  rintro e W3 ⟨rfl, hs3, k3⟩
  rw [e3.out] at hs3 ⊢
  dsimp only at hs3 ⊢
  replace H := H.out.call hs3 k3
  have c0 := H.cell 3
  have c1 := H.cell 4
  simp at c0 c1
  have f0 := H.frozen 3
  have f1 := H.frozen 4
  replace H := Hid.mk ((H.set 3 (.int .u32 (i3 : Int))).set 4 (.int .u32 (g3 : Int)))
  clear hs3 k3
  go_wp2_with fail
  generalize (W3.setCell ⟨pb, 3, none⟩ (.int .u32 (i3 : Int))).setCell ⟨pb, 4, none⟩ (.int .u32 (g3 : Int)) = W2 at *
  clear c0 c1 f0 f1
  -- kind
  refine (gU32 H.out.1).mono ?_
  rintro e W3 ⟨rfl, hs3, k3⟩
  rw [e4.out] at hs3 ⊢
  dsimp only at hs3 ⊢
  replace H := H.out.call hs3 k3
  have c0 := H.cell 5
  simp at c0
  have f0 := H.frozen 5
  replace H := Hid.mk (H.set 5 (.int .u32 (x4 : Int)))
  clear hs3 k3
  go_wp2_with fail
  generalize W3.setCell ⟨pb, 5, none⟩ (.int .u32 (x4 : Int)) = W2 at *
  clear c0 f0
  -- mode
  refine (gU32 H.out.1).mono ?_
  rintro e W3 ⟨rfl, hs3, k3⟩
  rw [e5.out] at hs3 ⊢
  dsimp only at hs3 ⊢
  replace H := H.out.call hs3 k3
  have c0 := H.cell 6
  simp at c0
  have f0 := H.frozen 6
  replace H := Hid.mk (H.set 6 (.int .u32 (x5 : Int)))
  clear hs3 k3
  go_wp2_with fail
  generalize W3.setCell ⟨pb, 6, none⟩ (.int .u32 (x5 : Int)) = W2 at *
  clear c0 f0
  -- links
  refine (gU32 H.out.1).mono ?_
  rintro e W3 ⟨rfl, hs3, k3⟩
  rw [e6.out] at hs3 ⊢
  dsimp only at hs3 ⊢
  replace H := H.out.call hs3 k3
  have c0 := H.cell 7
  simp at c0
  have f0 := H.frozen 7
  replace H := Hid.mk (H.set 7 (.int .u32 (x6 : Int)))
  clear hs3 k3
  go_wp2_with fail
  generalize W3.setCell ⟨pb, 7, none⟩ (.int .u32 (x6 : Int)) = W2 at *
  clear c0 f0
  -- size
  refine (gU32 H.out.1).mono ?_
  rintro e W3 ⟨rfl, hs3, k3⟩
  rw [e7.out] at hs3 ⊢
  dsimp only at hs3 ⊢
  replace H := H.out.call hs3 k3
  have c0 := H.cell 8
  simp at c0
  have f0 := H.frozen 8
  replace H := Hid.mk (H.set 8 (.int .u32 (x7 : Int)))
  clear hs3 k3
  go_wp2_with fail
  generalize W3.setCell ⟨pb, 8, none⟩ (.int .u32 (x7 : Int)) = W2 at *
  clear c0 f0
  -- change
  refine (gU64 H.out.1).mono ?_
  rintro e W3 ⟨rfl, hs3, k3⟩
  rw [e8.out] at hs3 ⊢
  dsimp only at hs3 ⊢
  replace H := H.out.call hs3 k3
  have c0 := H.cell 9
  simp at c0
  have f0 := H.frozen 9
  replace H := Hid.mk (H.set 9 (.int .u64 (x8 : Int)))
  clear hs3 k3
  go_wp2_with fail
  generalize W3.setCell ⟨pb, 9, none⟩ (.int .u64 (x8 : Int)) = W2 at *
  clear c0 f0
  -- data
  refine (gOpaque H.out.1 1024 (by omega) (by omega)).mono ?_
  rw [show (1024 : Int).toNat = 1024 from rfl, e9.out]
  dsimp only
  rintro e W3 ⟨⟨a4, q4, rfl, hq4, r4⟩, hs3, k3⟩
  replace H := H.out.call hs3 k3
  have c0 := H.cell 10
  simp at c0
  have f0 := H.frozen 10
  replace r4 := Hid.mk ((r4.set_apart (j := 10) H.2.1 (by simp [noU8]) (.slice a4 x9.length q4)).mono (N' := (W3.setCell ⟨pb, 10, none⟩ (.slice a4 x9.length q4)).heap.size) (by simp [World.setCell]))
  replace H := Hid.mk (H.set 10 (.slice a4 x9.length q4))
  clear hs3 k3
  go_wp2_with fail
  generalize W3.setCell ⟨pb, 10, none⟩ (.slice a4 x9.length q4) = W2 at *
  clear c0 f0
  -- row
  refine (gOpaque H.out.1 2048 (by omega) (by omega)).mono ?_
  rw [show (2048 : Int).toNat = 2048 from rfl, e10.out]
  dsimp only
  rintro e W3 ⟨⟨a5, q5, rfl, hq5, r5⟩, hs3, k3⟩
  replace r4 := (H.out.1.rd r4.out k3).mono k3.size
  replace H := Hid.mk (H.out.call hs3 k3)
  clear hs3 k3
  replace r4 := Hid.mk r4
  replace r5 := Hid.mk r5
  go_wp2_with fail
  -- eof
  refine (gBool H.out.1).mono ?_
  rintro e W3 ⟨rfl, hs3, k3⟩
  rw [e11.out] at hs3 ⊢
  dsimp only at hs3 ⊢
  replace r4 := (H.out.1.rd r4.out k3).mono k3.size
  replace r5 := (H.out.1.rd r5.out k3).mono k3.size
  replace H := H.out.call hs3 k3
  have c0 := H.cell 12
  simp at c0
  have f0 := H.frozen 12
  replace r4 := Hid.mk ((r4.set_apart (j := 12) H.2.1 (by simp [noU8]) (.bool x11)).mono (N' := (W3.setCell ⟨pb, 12, none⟩ (.bool x11)).heap.size) (by simp [World.setCell]))
  replace r5 := Hid.mk ((r5.set_apart (j := 12) H.2.1 (by simp [noU8]) (.bool x11)).mono (N' := (W3.setCell ⟨pb, 12, none⟩ (.bool x11)).heap.size) (by simp [World.setCell]))
  replace H := Hid.mk (H.set 12 (.bool x11))
  clear hs3 k3
  go_wp2_with fail
  generalize W3.setCell ⟨pb, 12, none⟩ (.bool x11) = W2 at *
  clear c0 f0
  -- verf
  refine (gU64 H.out.1).mono ?_
  rintro e W3 ⟨rfl, hs3, k3⟩
  rw [e12.out] at hs3 ⊢
  dsimp only at hs3 ⊢
  replace r4 := (H.out.1.rd r4.out k3).mono k3.size
  replace r5 := (H.out.1.rd r5.out k3).mono k3.size
  replace H := H.out.call hs3 k3
  have c0 := H.cell 13
  simp at c0
  have f0 := H.frozen 13
  replace r4 := Hid.mk ((r4.set_apart (j := 13) H.2.1 (by simp [noU8]) (.int .u64 (x12 : Int))).mono (N' := (W3.setCell ⟨pb, 13, none⟩ (.int .u64 (x12 : Int))).heap.size) (by simp [World.setCell]))
  replace r5 := Hid.mk ((r5.set_apart (j := 13) H.2.1 (by simp [noU8]) (.int .u64 (x12 : Int))).mono (N' := (W3.setCell ⟨pb, 13, none⟩ (.int .u64 (x12 : Int))).heap.size) (by simp [World.setCell]))
  replace H := Hid.mk (H.set 13 (.int .u64 (x12 : Int)))
  clear hs3 k3
  go_wp2_with fail
  generalize W3.setCell ⟨pb, 13, none⟩ (.int .u64 (x12 : Int)) = W2 at *
  clear c0 f0
  -- free
  refine (gU32 H.out.1).mono ?_
  rintro e W3 ⟨rfl, hs3, k3⟩
  rw [e13.out] at hs3 ⊢
  dsimp only at hs3 ⊢
  replace r4 := (H.out.1.rd r4.out k3).mono k3.size
  replace r5 := (H.out.1.rd r5.out k3).mono k3.size
  replace H := H.out.call hs3 k3
  have c0 := H.cell 14
  simp at c0
  have f0 := H.frozen 14
  replace r4 := Hid.mk ((r4.set_apart (j := 14) H.2.1 (by simp [noU8]) (.int .u32 (x13 : Int))).mono (N' := (W3.setCell ⟨pb, 14, none⟩ (.int .u32 (x13 : Int))).heap.size) (by simp [World.setCell]))
  replace r5 := Hid.mk ((r5.set_apart (j := 14) H.2.1 (by simp [noU8]) (.int .u32 (x13 : Int))).mono (N' := (W3.setCell ⟨pb, 14, none⟩ (.int .u32 (x13 : Int))).heap.size) (by simp [World.setCell]))
  replace H := Hid.mk (H.set 14 (.int .u32 (x13 : Int)))
  clear hs3 k3
  go_wp2_with fail
  generalize W3.setCell ⟨pb, 14, none⟩ (.int .u32 (x13 : Int)) = W2 at *
  clear c0 f0
  refine (gEnd H.out.1).mono ?_
  rintro e W5 ⟨rfl, rfl⟩
  by_cases he : rEnd s13 = 0
  · have he' := Hid.mk he
    rw [he]
    clear he
    go_wp2_with fail
    have hpl := lt_of_blk H.out.2.1
    have hwl := Nat.lt_of_lt_of_le hz0.out H.out.1.2.2.size
    replace hpl := Hid.mk hpl
    replace hwl := Hid.mk hwl
    have hpb : ¬ pb = W.heap.size := by have h1 := H.out.2.2.1; have h2 := H.out.1.2.1; have h3 := hz0.out; omega
    have hpb' : ¬ W.heap.size = pb := fun e => hpb e.symm
    refine (dget_any _ _ a5 q5 x10 r5.out (by omega)).mono ?_
    rintro e W6 ⟨a6, q6, rfl, hq6, r6, k6, fr6⟩
    have fr : ∀ k o, a6 = some ⟨k, o, none⟩ → pb < k ∧ W.heap.size < k := fun k o e => by
      have g1 := fr6 k o e
      have g2 := hpl.out
      have g3 := hwl.out
      omega
    replace fr := Hid.mk fr
    replace H := H.out.same k6
    replace r4 := Hid.mk ((r4.out.kp k6 (fun _ _ _ x => x)).mono k6.size)
    clear r5 k6 fr6 hpl hwl
    by_cases hg : (getD x10).2 = 0
    · rw [hg]
      obtain ⟨es, hes⟩ : ∃ es, (getD x10).1 = es := ⟨_, rfl⟩
      rw [hes] at hq6 r6 ⊢
      replace hg := Hid.mk hg
      replace hes := Hid.mk hes
      by_cases hok : okStatus x2 = true
      · by_cases h24 : es.length ≤ 24
        · have hfin : Hid (getR b = (({ client := x0, xid := x1, status := (x2 : Int), atI := i3, atG := g3, kind := x4, mode := x5, links := x6, size := x7, change := x8, data := x9, entries := es, eof := x11, verf := x12, free := x13 } : ReplyV), 0)) := by unfold Hid getR; rw [eg.out]; dsimp only; rw [he'.out, hg.out, hes.out, hok]; simp [h24]
          replace hok := Hid.mk hok
          have c0 := H.cell 0
          have c1 := H.cell 1
          have c2 := H.cell 2
          have c3 := H.cell 3
          have c4 := H.cell 4
          have c5 := H.cell 5
          have c6 := H.cell 6
          have c7 := H.cell 7
          have c8 := H.cell 8
          have c9 := H.cell 9
          have c10 := H.cell 10
          have c11 := H.cell 11
          have c12 := H.cell 12
          have c13 := H.cell 13
          have c14 := H.cell 14
          simp at c0 c1 c2 c3 c4 c5 c6 c7 c8 c9 c10 c11 c12 c13 c14
          have f0 := H.frozen 0
          have f1 := H.frozen 1
          have f2 := H.frozen 2
          have f3 := H.frozen 3
          have f4 := H.frozen 4
          have f5 := H.frozen 5
          have f6 := H.frozen 6
          have f7 := H.frozen 7
          have f8 := H.frozen 8
          have f9 := H.frozen 9
          have f10 := H.frozen 10
          have f11 := H.frozen 11
          have f12 := H.frozen 12
          have f13 := H.frozen 13
          have f14 := H.frozen 14
          have H2 := (H.set 2 (.int .i64 (x2 : Int))).set 11 (.slice a6 es.length q6)
          replace r4 := Hid.mk ((r4.out.set_apart (j := 2) H.2.1 (by simp [noU8]) (.int .i64 (x2 : Int))).set_apart (j := 11) (H.set 2 (.int .i64 (x2 : Int))).2.1 (by simp [noU8]) (.slice a6 es.length q6))
          have r7 : Rd ((W6.setCell ⟨pb, 2, none⟩ (.int .i64 (x2 : Int))).setCell ⟨pb, 11, none⟩ (.slice a6 es.length q6)) W6.heap.size a6 (eCells es) := r6.kpa (S := On pb) (((Kp.refl _ _).setCell (.inr fun _ => rfl) _).setCell (.inr fun _ => rfl) _) (fun b o e x y => by have := (fr.out b o e).1; have : b = pb := y; omega)
          have e7 : ((W6.setCell ⟨pb, 2, none⟩ (.int .i64 (x2 : Int))).setCell ⟨pb, 11, none⟩ (.slice a6 es.length q6)).heap.size = W6.heap.size := by simp [World.setCell]
          replace r7 := Hid.mk (r7.mono (Nat.le_of_eq e7.symm))
          replace r4 := Hid.mk (r4.out.mono (Nat.le_of_eq e7.symm))
          clear e7 r6
          have hb2 := H2.1.2.2.block _ _ hb0.out (fun x => x)
          have d0 := cell_blk hb2 0
          have d1 := cell_blk hb2 1
          have d2 := cell_blk hb2 2
          have d3 := cell_blk hb2 3
          have d4 := cell_blk hb2 4
          have d5 := cell_blk hb2 5
          have d6 := cell_blk hb2 6
          have d7 := cell_blk hb2 7
          have d8 := cell_blk hb2 8
          have d9 := cell_blk hb2 9
          have d10 := cell_blk hb2 10
          have d11 := cell_blk hb2 11
          have d12 := cell_blk hb2 12
          have d13 := cell_blk hb2 13
          have d14 := cell_blk hb2 14
          simp at d0 d1 d2 d3 d4 d5 d6 d7 d8 d9 d10 d11 d12 d13 d14
          have z0 := frozen_blk hb2 0
          have z1 := frozen_blk hb2 1
          have z2 := frozen_blk hb2 2
          have z3 := frozen_blk hb2 3
          have z4 := frozen_blk hb2 4
          have z5 := frozen_blk hb2 5
          have z6 := frozen_blk hb2 6
          have z7 := frozen_blk hb2 7
          have z8 := frozen_blk hb2 8
          have z9 := frozen_blk hb2 9
          have z10 := frozen_blk hb2 10
          have z11 := frozen_blk hb2 11
          have z12 := frozen_blk hb2 12
          have z13 := frozen_blk hb2 13
          have z14 := frozen_blk hb2 14
          replace hb2 := Hid.mk hb2
          have k2 := Hid.mk (k0.out.trans H2.1.2.2)
          have hb6 := H.1.2.2.block _ _ hb0.out (fun x => x)
          have w0 := cell_blk hb6 0
          have w1 := cell_blk hb6 1
          have w2 := cell_blk hb6 2
          have w3 := cell_blk hb6 3
          have w4 := cell_blk hb6 4
          have w5 := cell_blk hb6 5
          have w6 := cell_blk hb6 6
          have w7 := cell_blk hb6 7
          have w8 := cell_blk hb6 8
          have w9 := cell_blk hb6 9
          have w10 := cell_blk hb6 10
          have w11 := cell_blk hb6 11
          have w12 := cell_blk hb6 12
          have w13 := cell_blk hb6 13
          have w14 := cell_blk hb6 14
          simp at w0 w1 w2 w3 w4 w5 w6 w7 w8 w9 w10 w11 w12 w13 w14
          have y0 := frozen_blk hb6 0
          have y1 := frozen_blk hb6 1
          have y2 := frozen_blk hb6 2
          have y3 := frozen_blk hb6 3
          have y4 := frozen_blk hb6 4
          have y5 := frozen_blk hb6 5
          have y6 := frozen_blk hb6 6
          have y7 := frozen_blk hb6 7
          have y8 := frozen_blk hb6 8
          have y9 := frozen_blk hb6 9
          have y10 := frozen_blk hb6 10
          have y11 := frozen_blk hb6 11
          have y12 := frozen_blk hb6 12
          have y13 := frozen_blk hb6 13
          have y14 := frozen_blk hb6 14
          replace hb6 := Hid.mk hb6
          replace H2 := Hid.mk H2
          replace H := Hid.mk H
          clear d0 d1 d2 d3 d4 d5 d6 d7 d8 d9 d10 d11 d12 d13 d14 z0 z1 z2 z3 z4 z5 z6 z7 z8 z9 z10 z11 z12 z13 z14
          go_wp2_with (go_at_call 19; refine (status_any _ _).mono ?_; rintro e W7 ⟨rfl, rfl⟩; rw [hok.out])
          have F := finR (c := ({ client := x0, xid := x1, status := (x2 : Int), atI := i3, atG := g3, kind := x4, mode := x5, links := x6, size := x7, change := x8, data := x9, entries := es, eof := x11, verf := x12, free := x13 } : ReplyV)) (a := a4) (q := q4) (a2 := a6) (q2 := q6) k2.out hb2.out rfl rfl r4.out r7.out (fun k o e => (fr.out k o e).2)
          show bodyPost _ _ _ _ _ (setAll W.heap.size _ 0 (ReplyV.cells ({ client := x0, xid := x1, status := (x2 : Int), atI := i3, atG := g3, kind := x4, mode := x5, links := x6, size := x7, change := x8, data := x9, entries := es, eof := x11, verf := x12, free := x13 } : ReplyV) a4 q4 a6 q6).toList)
          generalize setAll W.heap.size _ 0 (ReplyV.cells ({ client := x0, xid := x1, status := (x2 : Int), atI := i3, atG := g3, kind := x4, mode := x5, links := x6, size := x7, change := x8, data := x9, entries := es, eof := x11, verf := x12, free := x13 } : ReplyV) a4 q4 a6 q6).toList = Wf at *
          dsimp only [ReplyV.cells, noReply] at F
          have r20 := cell_blk F.1 0
          have r21 := cell_blk F.1 1
          have r22 := cell_blk F.1 2
          have r23 := cell_blk F.1 3
          have r24 := cell_blk F.1 4
          have r25 := cell_blk F.1 5
          have r26 := cell_blk F.1 6
          have r27 := cell_blk F.1 7
          have r28 := cell_blk F.1 8
          have r29 := cell_blk F.1 9
          have r30 := cell_blk F.1 10
          have r31 := cell_blk F.1 11
          have r32 := cell_blk F.1 12
          have r33 := cell_blk F.1 13
          have r34 := cell_blk F.1 14
          refine bodyPost_ret (v := .tuple #[.agg (ReplyV.cells ({ client := x0, xid := x1, status := (x2 : Int), atI := i3, atG := g3, kind := x4, mode := x5, links := x6, size := x7, change := x8, data := x9, entries := es, eof := x11, verf := x12, free := x13 } : ReplyV) a4 q4 a6 q6), .int .i64 0]) ?_ rfl ?_
          · simp [results, Tryd.f12, go_sem, ReplyV.cells, noReply, r20, r21, r22, r23, r24, r25, r26, r27, r28, r29, r30, r31, r32, r33, r34]
          · rw [hfin.out]
            exact ⟨_, _, _, _, rfl, hq4, hq6, F.2.2.1, F.2.2.2, F.2.1⟩
        · have hfin : Hid (getR b = (noReply, 11)) := by unfold Hid getR; rw [eg.out]; dsimp only; rw [he'.out, hg.out, hes.out, hok]; simp [h24]
          replace hok := Hid.mk hok
          clear r6 r4
          have hb2 := H.1.2.2.block _ _ hb0.out (fun x => x)
          have d0 := cell_blk hb2 0
          have d1 := cell_blk hb2 1
          have d2 := cell_blk hb2 2
          have d3 := cell_blk hb2 3
          have d4 := cell_blk hb2 4
          have d5 := cell_blk hb2 5
          have d6 := cell_blk hb2 6
          have d7 := cell_blk hb2 7
          have d8 := cell_blk hb2 8
          have d9 := cell_blk hb2 9
          have d10 := cell_blk hb2 10
          have d11 := cell_blk hb2 11
          have d12 := cell_blk hb2 12
          have d13 := cell_blk hb2 13
          have d14 := cell_blk hb2 14
          simp at d0 d1 d2 d3 d4 d5 d6 d7 d8 d9 d10 d11 d12 d13 d14
          have z0 := frozen_blk hb2 0
          have z1 := frozen_blk hb2 1
          have z2 := frozen_blk hb2 2
          have z3 := frozen_blk hb2 3
          have z4 := frozen_blk hb2 4
          have z5 := frozen_blk hb2 5
          have z6 := frozen_blk hb2 6
          have z7 := frozen_blk hb2 7
          have z8 := frozen_blk hb2 8
          have z9 := frozen_blk hb2 9
          have z10 := frozen_blk hb2 10
          have z11 := frozen_blk hb2 11
          have z12 := frozen_blk hb2 12
          have z13 := frozen_blk hb2 13
          have z14 := frozen_blk hb2 14
          replace hb2 := Hid.mk hb2
          have k2 := Hid.mk (k0.out.trans H.1.2.2)
          replace H := Hid.mk H
          go_wp2_with (go_at_call 19; refine (status_any _ _).mono ?_; rintro e W7 ⟨rfl, rfl⟩; rw [hok.out])
          have F := finR (c := noReply) (a := none) (q := 0) (a2 := none) (q2 := 0) k2.out hb2.out rfl rfl (Rd.nil _ _ _) (Rd.nil _ _ _) (fun _ _ e => by cases e)
          show bodyPost _ _ _ _ _ (setAll W.heap.size _ 0 (ReplyV.cells noReply none 0 none 0).toList)
          generalize setAll W.heap.size _ 0 (ReplyV.cells noReply none 0 none 0).toList = Wf at *
          dsimp only [ReplyV.cells, noReply] at F
          have r20 := cell_blk F.1 0
          have r21 := cell_blk F.1 1
          have r22 := cell_blk F.1 2
          have r23 := cell_blk F.1 3
          have r24 := cell_blk F.1 4
          have r25 := cell_blk F.1 5
          have r26 := cell_blk F.1 6
          have r27 := cell_blk F.1 7
          have r28 := cell_blk F.1 8
          have r29 := cell_blk F.1 9
          have r30 := cell_blk F.1 10
          have r31 := cell_blk F.1 11
          have r32 := cell_blk F.1 12
          have r33 := cell_blk F.1 13
          have r34 := cell_blk F.1 14
          refine bodyPost_ret (v := .tuple #[.agg (ReplyV.cells noReply none 0 none 0), .int .i64 11]) ?_ rfl ?_
          · simp [results, Tryd.f12, go_sem, ReplyV.cells, noReply, r20, r21, r22, r23, r24, r25, r26, r27, r28, r29, r30, r31, r32, r33, r34]
          · rw [hfin.out]
            exact ⟨_, _, _, _, rfl, (Nat.le_refl _), (Nat.le_refl _), F.2.2.1, F.2.2.2, F.2.1⟩
      · have hok' : okStatus x2 = false := by simpa using hok
        have hfin : Hid (getR b = (noReply, 11)) := by unfold Hid getR; rw [eg.out]; dsimp only; rw [he'.out, hg.out, hok']; simp
        replace hok := Hid.mk hok'
        clear r6 r4 hok'
        have hb2 := H.1.2.2.block _ _ hb0.out (fun x => x)
        have d0 := cell_blk hb2 0
        have d1 := cell_blk hb2 1
        have d2 := cell_blk hb2 2
        have d3 := cell_blk hb2 3
        have d4 := cell_blk hb2 4
        have d5 := cell_blk hb2 5
        have d6 := cell_blk hb2 6
        have d7 := cell_blk hb2 7
        have d8 := cell_blk hb2 8
        have d9 := cell_blk hb2 9
        have d10 := cell_blk hb2 10
        have d11 := cell_blk hb2 11
        have d12 := cell_blk hb2 12
        have d13 := cell_blk hb2 13
        have d14 := cell_blk hb2 14
        simp at d0 d1 d2 d3 d4 d5 d6 d7 d8 d9 d10 d11 d12 d13 d14
        have z0 := frozen_blk hb2 0
        have z1 := frozen_blk hb2 1
        have z2 := frozen_blk hb2 2
        have z3 := frozen_blk hb2 3
        have z4 := frozen_blk hb2 4
        have z5 := frozen_blk hb2 5
        have z6 := frozen_blk hb2 6
        have z7 := frozen_blk hb2 7
        have z8 := frozen_blk hb2 8
        have z9 := frozen_blk hb2 9
        have z10 := frozen_blk hb2 10
        have z11 := frozen_blk hb2 11
        have z12 := frozen_blk hb2 12
        have z13 := frozen_blk hb2 13
        have z14 := frozen_blk hb2 14
        replace hb2 := Hid.mk hb2
        have k2 := Hid.mk (k0.out.trans H.1.2.2)
        replace H := Hid.mk H
        go_wp2_with (go_at_call 19; refine (status_any _ _).mono ?_; rintro e W7 ⟨rfl, rfl⟩; rw [hok.out])
        have F := finR (c := noReply) (a := none) (q := 0) (a2 := none) (q2 := 0) k2.out hb2.out rfl rfl (Rd.nil _ _ _) (Rd.nil _ _ _) (fun _ _ e => by cases e)
        show bodyPost _ _ _ _ _ (setAll W.heap.size _ 0 (ReplyV.cells noReply none 0 none 0).toList)
        generalize setAll W.heap.size _ 0 (ReplyV.cells noReply none 0 none 0).toList = Wf at *
        dsimp only [ReplyV.cells, noReply] at F
        have r20 := cell_blk F.1 0
        have r21 := cell_blk F.1 1
        have r22 := cell_blk F.1 2
        have r23 := cell_blk F.1 3
        have r24 := cell_blk F.1 4
        have r25 := cell_blk F.1 5
        have r26 := cell_blk F.1 6
        have r27 := cell_blk F.1 7
        have r28 := cell_blk F.1 8
        have r29 := cell_blk F.1 9
        have r30 := cell_blk F.1 10
        have r31 := cell_blk F.1 11
        have r32 := cell_blk F.1 12
        have r33 := cell_blk F.1 13
        have r34 := cell_blk F.1 14
        refine bodyPost_ret (v := .tuple #[.agg (ReplyV.cells noReply none 0 none 0), .int .i64 11]) ?_ rfl ?_
        · simp [results, Tryd.f12, go_sem, ReplyV.cells, noReply, r20, r21, r22, r23, r24, r25, r26, r27, r28, r29, r30, r31, r32, r33, r34]
        · rw [hfin.out]
          exact ⟨_, _, _, _, rfl, (Nat.le_refl _), (Nat.le_refl _), F.2.2.1, F.2.2.2, F.2.1⟩
    · have hfin : Hid (getR b = (noReply, (getD x10).2)) := by unfold Hid getR; rw [eg.out]; dsimp only; rw [if_neg (by simp [he'.out]), if_pos hg]
      have hq : ((getD x10).2 != 0) = true := by simpa using hg
      clear hg r6 r4
      have hb2 := H.1.2.2.block _ _ hb0.out (fun x => x)
      have d0 := cell_blk hb2 0
      have d1 := cell_blk hb2 1
      have d2 := cell_blk hb2 2
      have d3 := cell_blk hb2 3
      have d4 := cell_blk hb2 4
      have d5 := cell_blk hb2 5
      have d6 := cell_blk hb2 6
      have d7 := cell_blk hb2 7
      have d8 := cell_blk hb2 8
      have d9 := cell_blk hb2 9
      have d10 := cell_blk hb2 10
      have d11 := cell_blk hb2 11
      have d12 := cell_blk hb2 12
      have d13 := cell_blk hb2 13
      have d14 := cell_blk hb2 14
      simp at d0 d1 d2 d3 d4 d5 d6 d7 d8 d9 d10 d11 d12 d13 d14
      have z0 := frozen_blk hb2 0
      have z1 := frozen_blk hb2 1
      have z2 := frozen_blk hb2 2
      have z3 := frozen_blk hb2 3
      have z4 := frozen_blk hb2 4
      have z5 := frozen_blk hb2 5
      have z6 := frozen_blk hb2 6
      have z7 := frozen_blk hb2 7
      have z8 := frozen_blk hb2 8
      have z9 := frozen_blk hb2 9
      have z10 := frozen_blk hb2 10
      have z11 := frozen_blk hb2 11
      have z12 := frozen_blk hb2 12
      have z13 := frozen_blk hb2 13
      have z14 := frozen_blk hb2 14
      replace hb2 := Hid.mk hb2
      have k2 := Hid.mk (k0.out.trans H.1.2.2)
      replace H := Hid.mk H
      go_wp2_with fail
      have F := finR (c := noReply) (a := none) (q := 0) (a2 := none) (q2 := 0) k2.out hb2.out rfl rfl (Rd.nil _ _ _) (Rd.nil _ _ _) (fun _ _ e => by cases e)
      show bodyPost _ _ _ _ _ (setAll W.heap.size _ 0 (ReplyV.cells noReply none 0 none 0).toList)
      generalize setAll W.heap.size _ 0 (ReplyV.cells noReply none 0 none 0).toList = Wf at *
      dsimp only [ReplyV.cells, noReply] at F
      have r20 := cell_blk F.1 0
      have r21 := cell_blk F.1 1
      have r22 := cell_blk F.1 2
      have r23 := cell_blk F.1 3
      have r24 := cell_blk F.1 4
      have r25 := cell_blk F.1 5
      have r26 := cell_blk F.1 6
      have r27 := cell_blk F.1 7
      have r28 := cell_blk F.1 8
      have r29 := cell_blk F.1 9
      have r30 := cell_blk F.1 10
      have r31 := cell_blk F.1 11
      have r32 := cell_blk F.1 12
      have r33 := cell_blk F.1 13
      have r34 := cell_blk F.1 14
      refine bodyPost_ret (v := .tuple #[.agg (ReplyV.cells noReply none 0 none 0), .int .i64 (getD x10).2]) ?_ rfl ?_
      · simp [results, Tryd.f12, go_sem, ReplyV.cells, noReply, r20, r21, r22, r23, r24, r25, r26, r27, r28, r29, r30, r31, r32, r33, r34]
      · rw [hfin.out]
        exact ⟨_, _, _, _, rfl, (Nat.le_refl _), (Nat.le_refl _), F.2.2.1, F.2.2.2, F.2.1⟩
  · have hfin : Hid (getR b = (noReply, rEnd s13)) := by unfold Hid getR; rw [eg.out]; dsimp only; rw [if_pos he]
    have hq : (rEnd s13 != 0) = true := by simpa using he
    clear he r4 r5
    have hb2 := H.out.1.2.2.block _ _ hb0.out (fun x => x)
    have d0 := cell_blk hb2 0
    have d1 := cell_blk hb2 1
    have d2 := cell_blk hb2 2
    have d3 := cell_blk hb2 3
    have d4 := cell_blk hb2 4
    have d5 := cell_blk hb2 5
    have d6 := cell_blk hb2 6
    have d7 := cell_blk hb2 7
    have d8 := cell_blk hb2 8
    have d9 := cell_blk hb2 9
    have d10 := cell_blk hb2 10
    have d11 := cell_blk hb2 11
    have d12 := cell_blk hb2 12
    have d13 := cell_blk hb2 13
    have d14 := cell_blk hb2 14
    simp at d0 d1 d2 d3 d4 d5 d6 d7 d8 d9 d10 d11 d12 d13 d14
    have z0 := frozen_blk hb2 0
    have z1 := frozen_blk hb2 1
    have z2 := frozen_blk hb2 2
    have z3 := frozen_blk hb2 3
    have z4 := frozen_blk hb2 4
    have z5 := frozen_blk hb2 5
    have z6 := frozen_blk hb2 6
    have z7 := frozen_blk hb2 7
    have z8 := frozen_blk hb2 8
    have z9 := frozen_blk hb2 9
    have z10 := frozen_blk hb2 10
    have z11 := frozen_blk hb2 11
    have z12 := frozen_blk hb2 12
    have z13 := frozen_blk hb2 13
    have z14 := frozen_blk hb2 14
    replace hb2 := Hid.mk hb2
    have k2 := Hid.mk (k0.out.trans H.out.1.2.2)
    go_wp2_with fail
    have F := finR (c := noReply) (a := none) (q := 0) (a2 := none) (q2 := 0) k2.out hb2.out rfl rfl (Rd.nil _ _ _) (Rd.nil _ _ _) (fun _ _ e => by cases e)
    show bodyPost _ _ _ _ _ (setAll W.heap.size _ 0 (ReplyV.cells noReply none 0 none 0).toList)
    generalize setAll W.heap.size _ 0 (ReplyV.cells noReply none 0 none 0).toList = Wf at *
    dsimp only [ReplyV.cells, noReply] at F
    have r20 := cell_blk F.1 0
    have r21 := cell_blk F.1 1
    have r22 := cell_blk F.1 2
    have r23 := cell_blk F.1 3
    have r24 := cell_blk F.1 4
    have r25 := cell_blk F.1 5
    have r26 := cell_blk F.1 6
    have r27 := cell_blk F.1 7
    have r28 := cell_blk F.1 8
    have r29 := cell_blk F.1 9
    have r30 := cell_blk F.1 10
    have r31 := cell_blk F.1 11
    have r32 := cell_blk F.1 12
    have r33 := cell_blk F.1 13
    have r34 := cell_blk F.1 14
    refine bodyPost_ret (v := .tuple #[.agg (ReplyV.cells noReply none 0 none 0), .int .i64 (rEnd s13)]) ?_ rfl ?_
    · simp [results, Tryd.f12, go_sem, ReplyV.cells, noReply, r20, r21, r22, r23, r24, r25, r26, r27, r28, r29, r30, r31, r32, r33, r34]
    · rw [hfin.out]
      exact ⟨_, _, _, _, rfl, (Nat.le_refl _), (Nat.le_refl _), F.2.2.1, F.2.2.2, F.2.1⟩
end Go.Proofs.YtnfcjfbepaoimaaDoor
