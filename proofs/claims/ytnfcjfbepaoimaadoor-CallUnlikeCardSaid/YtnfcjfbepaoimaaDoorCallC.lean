/- Package call: a call's bytes, and back. -/
import Derived.Test.YtnfcjfbepaoimaaDoorCallB
set_option linter.unusedVariables false
set_option linter.unusedSimpArgs false
namespace Go.Proofs.YtnfcjfbepaoimaaDoor
open Go.RowKit

/-- A call. -/
structure CallV where
  client : Nat
  xid : Nat
  op : Nat
  atI : Nat
  atG : Nat
  name : ByteArray
  toI : Nat
  toG : Nat
  toName : ByteArray
  offset : Nat
  verf : Nat
  count : Nat
  mode : Nat
  data : List UInt8

def CallV.ok (c : CallV) : Prop := c.client < 4294967296 ∧ c.xid < 4294967296 ∧ c.op < 4294967296 ∧ c.atI < 4294967296 ∧ c.atG < 4294967296 ∧ c.toI < 4294967296 ∧ c.toG < 4294967296 ∧
  c.offset < 18446744073709551616 ∧ c.verf < 18446744073709551616 ∧ c.count < 4294967296 ∧ c.mode < 4294967296
abbrev CallV.cells (c : CallV) (a : Option Addr) (q : Nat) : Array Value := #[.int .u32 (c.client : Int), .int .u32 (c.xid : Int), .int .u32 (c.op : Int), .int .u32 (c.atI : Int), .int .u32 (c.atG : Int), .string c.name,
  .int .u32 (c.toI : Int), .int .u32 (c.toG : Int), .string c.toName, .int .u64 (c.offset : Int), .int .u64 (c.verf : Int), .int .u32 (c.count : Int), .int .u32 (c.mode : Int), .slice a c.data.length q]
def CallV.big (c : CallV) : Bool := !knownOp c.op || decide (64 < c.name.size) || decide (64 < c.toName.size) || decide (1024 < c.data.length)
def pCall (c : CallV) : List UInt8 := [] ++ pU32 c.client ++ pU32 c.xid ++ pU32 c.op ++ (pU32 c.atI ++ pU32 c.atG) ++ pOpaque c.name.data.toList ++ (pU32 c.toI ++ pU32 c.toG) ++ pOpaque c.toName.data.toList ++
  pU64 c.offset ++ pU64 c.verf ++ pU32 c.count ++ pU32 c.mode ++ pOpaque c.data
def putC (c : CallV) : List UInt8 × Int := if c.big then ([], 1) else (pCall c, 0)

theorem app_le {l d : List UInt8} {n m : Nat} (h : l.length ≤ n) (h2 : d.length ≤ m) : (l ++ d).length ≤ n + m := by simp; omega
theorem pOpaque_le {l : List UInt8} {n : Nat} (h : l.length ≤ n) : (pOpaque l).length ≤ n + 7 := by rw [pOpaque_length]; have := fill_lt l.length; omega
theorem pHdl_length (i g : Nat) : (pU32 i ++ pU32 g).length = 8 := by simp [pU32_length]
theorem pStr_le {s : ByteArray} {n : Nat} (h : s.size ≤ n) : (pOpaque s.data.toList).length ≤ n + 7 := pOpaque_le (by simpa using h)

set_option maxRecDepth 100000 in
set_option maxHeartbeats 4000000 in
theorem putCall_any (W : World) (N : Nat) (a : Option Addr) (q : Nat) (c : CallV) (hok : c.ok) (h : Rd W N a (bys c.data)) (hN : N ≤ W.heap.size) :
    Calls Tryd.prog 15 #[.agg (c.cells a q)] W (OutBE Nn W (putC c)) := by
  obtain ⟨client, xid, op, atI, atG, name, toI, toG, toName, offset, verf, count, mode, data⟩ := c
  obtain ⟨h1, h2, h3, h4, h5, h6, h7, h8, h9, h10, h11⟩ := hok
  dsimp only [CallV.cells] at *
  have hcv := @Lib.run_convert_string_bytes Tryd.prog
  cases hk : knownOp op with
  | false =>
    replace hk := Hid.mk hk
    have hfin : Hid (putC ⟨client, xid, op, atI, atG, name, toI, toG, toName, offset, verf, count, mode, data⟩ = ([], 1)) := by unfold Hid; simp [putC, CallV.big, hk.out]
    go_enter Tryd.func15, Tryd.ntmps15
    go_wp2_with (go_at_call 49; refine (known_any _ _ h3).mono ?_; rintro e W2 ⟨rfl, rfl⟩; rw [hk.out])
    go_ret2
    rw [hfin.out]
    exact ⟨none, 0, rfl, Nat.le_refl _, Rd.nil _ _ _, (Kp.refl _ _).alloc _, World.ownsRow_nil _ _ _ _⟩
  | true =>
    replace hk := Hid.mk hk
    by_cases hn : 64 < name.size
    · have hfin : Hid (putC ⟨client, xid, op, atI, atG, name, toI, toG, toName, offset, verf, count, mode, data⟩ = ([], 1)) := by unfold Hid; simp [putC, CallV.big, hn]
      go_enter Tryd.func15, Tryd.ntmps15
      go_wp2_with (go_at_call 49; refine (known_any _ _ h3).mono ?_; rintro e W2 ⟨rfl, rfl⟩; rw [hk.out])
      go_ret2
      rw [hfin.out]
      exact ⟨none, 0, rfl, Nat.le_refl _, Rd.nil _ _ _, (Kp.refl _ _).alloc _, World.ownsRow_nil _ _ _ _⟩
    by_cases ht : 64 < toName.size
    · have hfin : Hid (putC ⟨client, xid, op, atI, atG, name, toI, toG, toName, offset, verf, count, mode, data⟩ = ([], 1)) := by unfold Hid; simp [putC, CallV.big, ht]
      go_enter Tryd.func15, Tryd.ntmps15
      go_wp2_with (go_at_call 49; refine (known_any _ _ h3).mono ?_; rintro e W2 ⟨rfl, rfl⟩; rw [hk.out])
      go_ret2
      rw [hfin.out]
      exact ⟨none, 0, rfl, Nat.le_refl _, Rd.nil _ _ _, (Kp.refl _ _).alloc _, World.ownsRow_nil _ _ _ _⟩
    by_cases hd : 1024 < data.length
    · have hfin : Hid (putC ⟨client, xid, op, atI, atG, name, toI, toG, toName, offset, verf, count, mode, data⟩ = ([], 1)) := by unfold Hid; simp [putC, CallV.big, hd]
      go_enter Tryd.func15, Tryd.ntmps15
      go_wp2_with (go_at_call 49; refine (known_any _ _ h3).mono ?_; rintro e W2 ⟨rfl, rfl⟩; rw [hk.out])
      go_ret2
      rw [hfin.out]
      exact ⟨none, 0, rfl, Nat.le_refl _, Rd.nil _ _ _, (Kp.refl _ _).alloc _, World.ownsRow_nil _ _ _ _⟩
    have hfin : Hid (putC ⟨client, xid, op, atI, atG, name, toI, toG, toName, offset, verf, count, mode, data⟩ = (pCall ⟨client, xid, op, atI, atG, name, toI, toG, toName, offset, verf, count, mode, data⟩, 0)) := by unfold Hid; simp [putC, CallV.big, hk.out, hn, ht, hd]
    have hb0 := blk_new W (.cells (CallV.cells ⟨client, xid, op, atI, atG, name, toI, toG, toName, offset, verf, count, mode, data⟩ a q) 50)
    have hr0 : Rd (W.alloc (.cells (CallV.cells ⟨client, xid, op, atI, atG, name, toI, toG, toName, offset, verf, count, mode, data⟩ a q) 50)) N a (bys data) := h.alloc _
    have k0 : Kp Nn W (W.alloc (.cells (CallV.cells ⟨client, xid, op, atI, atG, name, toI, toG, toName, offset, verf, count, mode, data⟩ a q) 50)) := (Kp.refl _ _).alloc _
    have hN0 : N ≤ (W.alloc (.cells (CallV.cells ⟨client, xid, op, atI, atG, name, toI, toG, toName, offset, verf, count, mode, data⟩ a q) 50)).heap.size := by simp; omega
    replace hb0 := Hid.mk hb0
    replace hr0 := Hid.mk hr0
    replace k0 := Hid.mk k0
    replace hN0 := Hid.mk hN0
    clear h
    go_enter Tryd.func15, Tryd.ntmps15
    go_wp2_with (go_at_call 49; refine (known_any _ _ h3).mono ?_; rintro e W2 ⟨rfl, rfl⟩; rw [hk.out])
    refine (sNew _).mono ?_
    rintro e W1 ⟨wb, rfl, hs, kz⟩
    have hl : Hid ((([] : List UInt8)).length ≤ 0) := Nat.le_refl _
    generalize W.alloc (.cells (CallV.cells ⟨client, xid, op, atI, atG, name, toI, toG, toName, offset, verf, count, mode, data⟩ a q) 50) = W0 at *
    replace hs := Hid.mk hs
    clear kz
    have hb := hs.out.2.block _ _ hb0.out (fun x => x)
    have c0 := cell_blk hb 0
    simp [CallV.cells] at c0
    clear hb
    go_wp2_with fail
    have hl' := hl.out
    refine (sU32 hs.out (by omega) client h1).mono ?_
    rintro e W1 ⟨rfl, hs', _⟩
    replace hl := Hid.mk (app_le hl.out (Nat.le_of_eq (pU32_length client)))
    replace hs := Hid.mk hs'
    clear c0 hs' hl'
    have hb := hs.out.2.block _ _ hb0.out (fun x => x)
    have c1 := cell_blk hb 1
    simp [CallV.cells] at c1
    clear hb
    go_wp2_with fail
    have hl' := hl.out
    refine (sU32 hs.out (by omega) xid h2).mono ?_
    rintro e W1 ⟨rfl, hs', _⟩
    replace hl := Hid.mk (app_le hl.out (Nat.le_of_eq (pU32_length xid)))
    replace hs := Hid.mk hs'
    clear c1 hs' hl'
    have hb := hs.out.2.block _ _ hb0.out (fun x => x)
    have c2 := cell_blk hb 2
    simp [CallV.cells] at c2
    clear hb
    go_wp2_with fail
    have hl' := hl.out
    refine (sU32 hs.out (by omega) op h3).mono ?_
    rintro e W1 ⟨rfl, hs', _⟩
    replace hl := Hid.mk (app_le hl.out (Nat.le_of_eq (pU32_length op)))
    replace hs := Hid.mk hs'
    clear c2 hs' hl'
    have hb := hs.out.2.block _ _ hb0.out (fun x => x)
    have c3 := cell_blk hb 3
    have c4 := cell_blk hb 4
    simp [CallV.cells] at c3 c4
    clear hb
    go_wp2_with fail
    have hl' := hl.out
    refine (handle_any hs.out (by omega) atI atG h4 h5).mono ?_
    rintro e W1 ⟨rfl, hs', _⟩
    replace hl := Hid.mk (app_le hl.out (Nat.le_of_eq (pHdl_length atI atG)))
    replace hs := Hid.mk hs'
    clear c3 c4 hs' hl'
    have hb := hs.out.2.block _ _ hb0.out (fun x => x)
    have c5 := cell_blk hb 5
    simp [CallV.cells] at c5
    clear hb
    have hq := hcv W1 9 29 5 name Tryd.underlying9 Tryd.underlying29 Tryd.underlying5
    go_wp2_with fail
    have hl' := hl.out
    refine (sStr hs.out (s2b_kp W1 _ _) (by omega) _ name (s2b_rd W1 _ _) (by omega)).mono ?_
    rintro e W1 ⟨rfl, hs', _⟩
    replace hl := Hid.mk (app_le hl.out (pStr_le (s := name) (n := 64) (by omega)))
    replace hs := Hid.mk hs'
    clear c5 hs' hl' hq
    have hb := hs.out.2.block _ _ hb0.out (fun x => x)
    have c6 := cell_blk hb 6
    have c7 := cell_blk hb 7
    simp [CallV.cells] at c6 c7
    clear hb
    go_wp2_with fail
    have hl' := hl.out
    refine (handle_any hs.out (by omega) toI toG h6 h7).mono ?_
    rintro e W1 ⟨rfl, hs', _⟩
    replace hl := Hid.mk (app_le hl.out (Nat.le_of_eq (pHdl_length toI toG)))
    replace hs := Hid.mk hs'
    clear c6 c7 hs' hl'
    have hb := hs.out.2.block _ _ hb0.out (fun x => x)
    have c8 := cell_blk hb 8
    simp [CallV.cells] at c8
    clear hb
    have hq := hcv W1 9 29 5 toName Tryd.underlying9 Tryd.underlying29 Tryd.underlying5
    go_wp2_with fail
    have hl' := hl.out
    refine (sStr hs.out (s2b_kp W1 _ _) (by omega) _ toName (s2b_rd W1 _ _) (by omega)).mono ?_
    rintro e W1 ⟨rfl, hs', _⟩
    replace hl := Hid.mk (app_le hl.out (pStr_le (s := toName) (n := 64) (by omega)))
    replace hs := Hid.mk hs'
    clear c8 hs' hl' hq
    have hb := hs.out.2.block _ _ hb0.out (fun x => x)
    have c9 := cell_blk hb 9
    simp [CallV.cells] at c9
    clear hb
    go_wp2_with fail
    have hl' := hl.out
    refine (sU64 hs.out (by omega) offset h8).mono ?_
    rintro e W1 ⟨rfl, hs', _⟩
    replace hl := Hid.mk (app_le hl.out (Nat.le_of_eq (pU64_length offset)))
    replace hs := Hid.mk hs'
    clear c9 hs' hl'
    have hb := hs.out.2.block _ _ hb0.out (fun x => x)
    have c10 := cell_blk hb 10
    simp [CallV.cells] at c10
    clear hb
    go_wp2_with fail
    have hl' := hl.out
    refine (sU64 hs.out (by omega) verf h9).mono ?_
    rintro e W1 ⟨rfl, hs', _⟩
    replace hl := Hid.mk (app_le hl.out (Nat.le_of_eq (pU64_length verf)))
    replace hs := Hid.mk hs'
    clear c10 hs' hl'
    have hb := hs.out.2.block _ _ hb0.out (fun x => x)
    have c11 := cell_blk hb 11
    simp [CallV.cells] at c11
    clear hb
    go_wp2_with fail
    have hl' := hl.out
    refine (sU32 hs.out (by omega) count h10).mono ?_
    rintro e W1 ⟨rfl, hs', _⟩
    replace hl := Hid.mk (app_le hl.out (Nat.le_of_eq (pU32_length count)))
    replace hs := Hid.mk hs'
    clear c11 hs' hl'
    have hb := hs.out.2.block _ _ hb0.out (fun x => x)
    have c12 := cell_blk hb 12
    simp [CallV.cells] at c12
    clear hb
    go_wp2_with fail
    have hl' := hl.out
    refine (sU32 hs.out (by omega) mode h11).mono ?_
    rintro e W1 ⟨rfl, hs', _⟩
    replace hl := Hid.mk (app_le hl.out (Nat.le_of_eq (pU32_length mode)))
    replace hs := Hid.mk hs'
    clear c12 hs' hl'
    have hb := hs.out.2.block _ _ hb0.out (fun x => x)
    have c13 := cell_blk hb 13
    simp [CallV.cells] at c13
    clear hb
    go_wp2_with fail
    have hl' := hl.out
    refine (sOpaque hs.out (by omega) hr0.out hN0.out (by omega)).mono ?_
    rintro e W1 ⟨rfl, hs', _⟩
    replace hl := Hid.mk (app_le hl.out (pOpaque_le (l := data) (n := 1024) (by omega)))
    replace hs := Hid.mk hs'
    clear c13 hs' hl'
    have hfin' : Hid (putC ⟨client, xid, op, atI, atG, name, toI, toG, toName, offset, verf, count, mode, data⟩ = (_, 0)) := hfin.out
    unfold pCall at hfin'
    dsimp only at hfin'
    generalize [] ++ pU32 client ++ pU32 xid ++ pU32 op ++ (pU32 atI ++ pU32 atG) ++ pOpaque name.data.toList ++ (pU32 toI ++ pU32 toG) ++ pOpaque toName.data.toList ++ pU64 offset ++ pU64 verf ++ pU32 count ++ pU32 mode ++ pOpaque data = L at *
    go_wp2_with fail
    have hl' := hl.out
    refine (sOut hs.out (by omega)).mono ?_
    rintro e W3 ⟨a3, c3, rfl, hc3, hr3, k3, ow3⟩
    replace ow3 := Hid.mk (own_base (base' := W.heap.size) ow3 (k0.out.trans hs.out.2).size)
    replace hr3 := Hid.mk hr3
    replace k3 := Hid.mk (k0.out.trans (hs.out.2.trans k3))
    clear hl'
    go_wp2_with fail
    go_ret2
    rw [hfin'.out]
    exact ⟨a3, c3, rfl, hc3, hr3.out, k3.out, ow3.out⟩
end Go.Proofs.YtnfcjfbepaoimaaDoor
