/- The law CallUnlike: its walk. -/
import Derived.Test.YtnfcjfbepaoimaaDoorCallT
import Derived.Test.YtnfcjfbepaoimaaDoorCodecC
import Derived.Laws.Rows
import Derived.Deep.RegionHeld3
import Derived.Deep.MidRow
set_option linter.unusedVariables false
set_option linter.unusedSimpArgs false
namespace Go.Proofs.YtnfcjfbepaoimaaDoor
open Go.RowKit

theorem info_C : (Tryd.prog.info? 57).map (·.size) = some 14 := by kernel_rfl
/-- A call as the model has it. -/
abbrev CallV.ccells (c : CallV) : Array Value := #[.int .u32 (c.client : Int), .int .u32 (c.xid : Int), .int .u32 (c.op : Int), .int .u32 (c.atI : Int), .int .u32 (c.atG : Int), .string c.name,
  .int .u32 (c.toI : Int), .int .u32 (c.toG : Int), .string c.toName, .int .u64 (c.offset : Int), .int .u64 (c.verf : Int), .int .u32 (c.count : Int), .int .u32 (c.mode : Int), .string ⟨c.data.toArray⟩]
abbrev zeroC : Array Value := #[.int .u32 0, .int .u32 0, .int .u32 0, .int .u32 0, .int .u32 0, .string ⟨#[]⟩, .int .u32 0, .int .u32 0, .string ⟨#[]⟩, .int .u64 0, .int .u64 0, .int .u32 0, .int .u32 0, .string ⟨#[]⟩]

set_option maxRecDepth 100000 in
set_option maxHeartbeats 2000000 in
theorem callOf_any (W : World) (N : Nat) (a : Option Addr) (q : Nat) (c : CallV) (h : Rd W N a (bys c.data)) :
    Calls Tryd.prog 17 #[.agg (c.cells a q)] W fun r W' => r = .returned (.agg c.ccells) ∧ Kp Nn W W' := by
  obtain ⟨client, xid, op, atI, atG, name, toI, toG, toName, offset, verf, count, mode, data⟩ := c
  dsimp only [CallV.cells, CallV.ccells] at *
  have k1 : Kp Nn W ((W.alloc (.cells (CallV.cells ⟨client, xid, op, atI, atG, name, toI, toG, toName, offset, verf, count, mode, data⟩ a q) 50)).alloc (.cells zeroC 57)) := ((Kp.refl _ _).alloc _).alloc _
  have hcv := run_b2s (P := Tryd.prog) ((W.alloc (.cells (CallV.cells ⟨client, xid, op, atI, atG, name, toI, toG, toName, offset, verf, count, mode, data⟩ a q) 50)).alloc (.cells zeroC 57)) 29 9 5 N q a data Tryd.underlying29 Tryd.underlying5 Tryd.underlying9 ((h.alloc _).alloc _)
  have hz := blk_new (W.alloc (.cells (CallV.cells ⟨client, xid, op, atI, atG, name, toI, toG, toName, offset, verf, count, mode, data⟩ a q) 50)) (.cells zeroC 57)
  have esz : (W.alloc (.cells (CallV.cells ⟨client, xid, op, atI, atG, name, toI, toG, toName, offset, verf, count, mode, data⟩ a q) 50)).heap.size = W.heap.size + 1 := by simp
  rw [esz] at hz
  clear esz
  have hb := blk_alloc (blk_new W (.cells (CallV.cells ⟨client, xid, op, atI, atG, name, toI, toG, toName, offset, verf, count, mode, data⟩ a q) 50)) (.cells zeroC 57)
  replace k1 := Hid.mk k1
  replace hcv := Hid.mk hcv
  replace hz := Hid.mk hz
  replace hb := Hid.mk hb
  clear h
  go_enter Tryd.func17, Tryd.ntmps17
  go_upto_region 1 with fail
  dsimp only [CallV.cells, zeroC] at k1 hcv hz hb
  generalize (W.alloc (.cells _ 50)).alloc (.cells _ 57) = W1 at *
  have c0 := cell_blk hb.out 0
  have c1 := cell_blk hb.out 1
  have c2 := cell_blk hb.out 2
  have c3 := cell_blk hb.out 3
  have c4 := cell_blk hb.out 4
  have c5 := cell_blk hb.out 5
  have c6 := cell_blk hb.out 6
  have c7 := cell_blk hb.out 7
  have c8 := cell_blk hb.out 8
  have c9 := cell_blk hb.out 9
  have c10 := cell_blk hb.out 10
  have c11 := cell_blk hb.out 11
  have c12 := cell_blk hb.out 12
  have c13 := cell_blk hb.out 13
  simp only [List.getElem?_toArray, List.getElem?_cons_succ, List.getElem?_cons_zero] at c0 c1 c2 c3 c4 c5 c6 c7 c8 c9 c10 c11 c12 c13
  have d0 := cell_blk hz.out 0
  have d1 := cell_blk hz.out 1
  have d2 := cell_blk hz.out 2
  have d3 := cell_blk hz.out 3
  have d4 := cell_blk hz.out 4
  have d5 := cell_blk hz.out 5
  have d6 := cell_blk hz.out 6
  have d7 := cell_blk hz.out 7
  have d8 := cell_blk hz.out 8
  have d9 := cell_blk hz.out 9
  have d10 := cell_blk hz.out 10
  have d11 := cell_blk hz.out 11
  have d12 := cell_blk hz.out 12
  have d13 := cell_blk hz.out 13
  simp only [List.getElem?_toArray, List.getElem?_cons_succ, List.getElem?_cons_zero] at d0 d1 d2 d3 d4 d5 d6 d7 d8 d9 d10 d11 d12 d13
  have f0 := frozen_blk hz.out 0
  have f1 := frozen_blk hz.out 1
  have f2 := frozen_blk hz.out 2
  have f3 := frozen_blk hz.out 3
  have f4 := frozen_blk hz.out 4
  have f5 := frozen_blk hz.out 5
  have f6 := frozen_blk hz.out 6
  have f7 := frozen_blk hz.out 7
  have f8 := frozen_blk hz.out 8
  have f9 := frozen_blk hz.out 9
  have f10 := frozen_blk hz.out 10
  have f11 := frozen_blk hz.out 11
  have f12 := frozen_blk hz.out 12
  have f13 := frozen_blk hz.out 13
  have hcv' := hcv.out
  go_wp2_with fail
  have hfin := setAll_whole (b := W.heap.size + 1) (vs := (CallV.ccells ⟨client, xid, op, atI, atG, name, toI, toG, toName, offset, verf, count, mode, data⟩).toList) hz.out rfl
  have kfin := setAll_kp (b := W.heap.size + 1) (CallV.ccells ⟨client, xid, op, atI, atG, name, toI, toG, toName, offset, verf, count, mode, data⟩).toList W1 0
  have k9 := k1.out.then kfin (fun i o hi _ x => by have := lt_of_blk hi; have : i = W.heap.size + 1 := x; omega)
  clear kfin
  show bodyPost _ _ _ _ _ (setAll (W.heap.size + 1) W1 0 (CallV.ccells ⟨client, xid, op, atI, atG, name, toI, toG, toName, offset, verf, count, mode, data⟩).toList)
  generalize setAll (W.heap.size + 1) W1 0 (CallV.ccells ⟨client, xid, op, atI, atG, name, toI, toG, toName, offset, verf, count, mode, data⟩).toList = Wf at *
  refine bodyPost_ret (v := .agg (CallV.ccells ⟨client, xid, op, atI, atG, name, toI, toG, toName, offset, verf, count, mode, data⟩)) (results_cell_row (p := 2) rfl _ Wf (W.heap.size + 1) 57 _ (0, 0) _ rfl hfin Tryd.underlying57 rfl info_C) rfl ?_
  exact ⟨rfl, k9⟩

set_option maxRecDepth 100000 in
set_option maxHeartbeats 4000000 in
theorem callUnlike_early1 (W : World) (hT : TabC W) (c : CallV) (a : Option Addr) (q : Nat) (d : CallV) (a2 : Option Addr) (q2 : Nat) (same : Bool)
    (hs1 : c.name.size ≤ 140737488351232) (hs2 : c.toName.size ≤ 140737488351232) (hs3 : d.name.size ≤ 140737488351232) (hs4 : d.toName.size ≤ 140737488351232) (h1 : 1100 < c.data.length) :
    Calls Tryd.prog 5 #[.agg (c.cells a q), .agg (d.cells a2 q2), .bool same] W fun r W' => r = .returned (.bool true) ∧ Kp Nn W W' := by
  have hb1 := blk_alloc (blk_new W (.cells (c.cells a q) 50)) (.cells (d.cells a2 q2) 50)
  have hb2 := blk_new (W.alloc (.cells (c.cells a q) 50)) (.cells (d.cells a2 q2) 50)
  have k0 : Kp Nn W ((W.alloc (.cells (c.cells a q) 50)).alloc (.cells (d.cells a2 q2) 50)) := ((Kp.refl _ _).alloc _).alloc _
  have hT0 := hT.kp k0
  have esz : (W.alloc (.cells (c.cells a q) 50)).heap.size = W.heap.size + 1 := by simp
  rw [esz] at hb2
  have u5 : (c.cells a q)[5]? = some (.string c.name) := rfl
  have u8 : (c.cells a q)[8]? = some (.string c.toName) := rfl
  have u13 : (c.cells a q)[13]? = some (.slice a c.data.length q) := rfl
  have v5 : (d.cells a2 q2)[5]? = some (.string d.name) := rfl
  have v8 : (d.cells a2 q2)[8]? = some (.string d.toName) := rfl
  have v13 : (d.cells a2 q2)[13]? = some (.slice a2 d.data.length q2) := rfl
  clear esz
  generalize hcc : c.cells a q = cc at *
  generalize hrr : d.cells a2 q2 = rr at *
  replace hcc := Hid.mk hcc
  replace hrr := Hid.mk hrr
  replace hb1 := Hid.mk hb1
  replace hb2 := Hid.mk hb2
  replace k0 := Hid.mk k0
  replace hT0 := Hid.mk hT0
  replace u5 := Hid.mk u5
  replace u8 := Hid.mk u8
  replace u13 := Hid.mk u13
  replace v5 := Hid.mk v5
  replace v8 := Hid.mk v8
  replace v13 := Hid.mk v13
  clear hT
  have g1 : (1100 : Int) < (c.data.length : Int) := by omega
  go_enter Tryd.func5, Tryd.ntmps5
  go_wp2_with fail
  generalize (W.alloc (.cells cc 50)).alloc (.cells rr 50) = W0 at *
  refine (awake_any W0 hT0.out).mono ?_
  rintro e W1 ⟨rfl, k1⟩
  have c5 := cell_blk (k1.block _ _ hb1.out (fun x => x)) 5
  have c8 := cell_blk (k1.block _ _ hb1.out (fun x => x)) 8
  have c13 := cell_blk (k1.block _ _ hb1.out (fun x => x)) 13
  have e5 := cell_blk (k1.block _ _ hb2.out (fun x => x)) 5
  have e8 := cell_blk (k1.block _ _ hb2.out (fun x => x)) 8
  have e13 := cell_blk (k1.block _ _ hb2.out (fun x => x)) 13
  rw [u5.out] at c5
  rw [u8.out] at c8
  rw [u13.out] at c13
  rw [v5.out] at e5
  rw [v8.out] at e8
  rw [v13.out] at e13
  replace k0 := Hid.mk (k0.out.trans k1)
  clear k1
  go_wp2_with fail
  go_ret
  exact ⟨rfl, k0.out⟩

set_option maxRecDepth 100000 in
set_option maxHeartbeats 4000000 in
theorem callUnlike_early2 (W : World) (hT : TabC W) (c : CallV) (a : Option Addr) (q : Nat) (d : CallV) (a2 : Option Addr) (q2 : Nat) (same : Bool)
    (hs1 : c.name.size ≤ 140737488351232) (hs2 : c.toName.size ≤ 140737488351232) (hs3 : d.name.size ≤ 140737488351232) (hs4 : d.toName.size ≤ 140737488351232) (h1 : c.data.length ≤ 1100) (h2 : 1100 < d.data.length) :
    Calls Tryd.prog 5 #[.agg (c.cells a q), .agg (d.cells a2 q2), .bool same] W fun r W' => r = .returned (.bool true) ∧ Kp Nn W W' := by
  have hb1 := blk_alloc (blk_new W (.cells (c.cells a q) 50)) (.cells (d.cells a2 q2) 50)
  have hb2 := blk_new (W.alloc (.cells (c.cells a q) 50)) (.cells (d.cells a2 q2) 50)
  have k0 : Kp Nn W ((W.alloc (.cells (c.cells a q) 50)).alloc (.cells (d.cells a2 q2) 50)) := ((Kp.refl _ _).alloc _).alloc _
  have hT0 := hT.kp k0
  have esz : (W.alloc (.cells (c.cells a q) 50)).heap.size = W.heap.size + 1 := by simp
  rw [esz] at hb2
  have u5 : (c.cells a q)[5]? = some (.string c.name) := rfl
  have u8 : (c.cells a q)[8]? = some (.string c.toName) := rfl
  have u13 : (c.cells a q)[13]? = some (.slice a c.data.length q) := rfl
  have v5 : (d.cells a2 q2)[5]? = some (.string d.name) := rfl
  have v8 : (d.cells a2 q2)[8]? = some (.string d.toName) := rfl
  have v13 : (d.cells a2 q2)[13]? = some (.slice a2 d.data.length q2) := rfl
  clear esz
  generalize hcc : c.cells a q = cc at *
  generalize hrr : d.cells a2 q2 = rr at *
  replace hcc := Hid.mk hcc
  replace hrr := Hid.mk hrr
  replace hb1 := Hid.mk hb1
  replace hb2 := Hid.mk hb2
  replace k0 := Hid.mk k0
  replace hT0 := Hid.mk hT0
  replace u5 := Hid.mk u5
  replace u8 := Hid.mk u8
  replace u13 := Hid.mk u13
  replace v5 := Hid.mk v5
  replace v8 := Hid.mk v8
  replace v13 := Hid.mk v13
  clear hT
  have g1 : (c.data.length : Int) ≤ 1100 := by omega
  have g2 : (1100 : Int) < (d.data.length : Int) := by omega
  go_enter Tryd.func5, Tryd.ntmps5
  go_wp2_with fail
  generalize (W.alloc (.cells cc 50)).alloc (.cells rr 50) = W0 at *
  refine (awake_any W0 hT0.out).mono ?_
  rintro e W1 ⟨rfl, k1⟩
  have c5 := cell_blk (k1.block _ _ hb1.out (fun x => x)) 5
  have c8 := cell_blk (k1.block _ _ hb1.out (fun x => x)) 8
  have c13 := cell_blk (k1.block _ _ hb1.out (fun x => x)) 13
  have e5 := cell_blk (k1.block _ _ hb2.out (fun x => x)) 5
  have e8 := cell_blk (k1.block _ _ hb2.out (fun x => x)) 8
  have e13 := cell_blk (k1.block _ _ hb2.out (fun x => x)) 13
  rw [u5.out] at c5
  rw [u8.out] at c8
  rw [u13.out] at c13
  rw [v5.out] at e5
  rw [v8.out] at e8
  rw [v13.out] at e13
  replace k0 := Hid.mk (k0.out.trans k1)
  clear k1
  go_wp2_with fail
  go_ret
  exact ⟨rfl, k0.out⟩

set_option maxRecDepth 100000 in
set_option maxHeartbeats 4000000 in
theorem callUnlike_early3 (W : World) (hT : TabC W) (c : CallV) (a : Option Addr) (q : Nat) (d : CallV) (a2 : Option Addr) (q2 : Nat) (same : Bool)
    (hs1 : c.name.size ≤ 140737488351232) (hs2 : c.toName.size ≤ 140737488351232) (hs3 : d.name.size ≤ 140737488351232) (hs4 : d.toName.size ≤ 140737488351232) (h1 : c.data.length ≤ 1100) (h2 : d.data.length ≤ 1100) (h3 : 300 < c.name.size + c.toName.size + d.name.size + d.toName.size) :
    Calls Tryd.prog 5 #[.agg (c.cells a q), .agg (d.cells a2 q2), .bool same] W fun r W' => r = .returned (.bool true) ∧ Kp Nn W W' := by
  have hb1 := blk_alloc (blk_new W (.cells (c.cells a q) 50)) (.cells (d.cells a2 q2) 50)
  have hb2 := blk_new (W.alloc (.cells (c.cells a q) 50)) (.cells (d.cells a2 q2) 50)
  have k0 : Kp Nn W ((W.alloc (.cells (c.cells a q) 50)).alloc (.cells (d.cells a2 q2) 50)) := ((Kp.refl _ _).alloc _).alloc _
  have hT0 := hT.kp k0
  have esz : (W.alloc (.cells (c.cells a q) 50)).heap.size = W.heap.size + 1 := by simp
  rw [esz] at hb2
  have u5 : (c.cells a q)[5]? = some (.string c.name) := rfl
  have u8 : (c.cells a q)[8]? = some (.string c.toName) := rfl
  have u13 : (c.cells a q)[13]? = some (.slice a c.data.length q) := rfl
  have v5 : (d.cells a2 q2)[5]? = some (.string d.name) := rfl
  have v8 : (d.cells a2 q2)[8]? = some (.string d.toName) := rfl
  have v13 : (d.cells a2 q2)[13]? = some (.slice a2 d.data.length q2) := rfl
  clear esz
  generalize hcc : c.cells a q = cc at *
  generalize hrr : d.cells a2 q2 = rr at *
  replace hcc := Hid.mk hcc
  replace hrr := Hid.mk hrr
  replace hb1 := Hid.mk hb1
  replace hb2 := Hid.mk hb2
  replace k0 := Hid.mk k0
  replace hT0 := Hid.mk hT0
  replace u5 := Hid.mk u5
  replace u8 := Hid.mk u8
  replace u13 := Hid.mk u13
  replace v5 := Hid.mk v5
  replace v8 := Hid.mk v8
  replace v13 := Hid.mk v13
  clear hT
  have g1 : (c.data.length : Int) ≤ 1100 := by omega
  have g2 : (d.data.length : Int) ≤ 1100 := by omega
  have g3 : (300 : Int) < (c.name.size : Int) + (c.toName.size : Int) + (d.name.size : Int) + (d.toName.size : Int) := by omega
  go_enter Tryd.func5, Tryd.ntmps5
  go_wp2_with fail
  generalize (W.alloc (.cells cc 50)).alloc (.cells rr 50) = W0 at *
  refine (awake_any W0 hT0.out).mono ?_
  rintro e W1 ⟨rfl, k1⟩
  have c5 := cell_blk (k1.block _ _ hb1.out (fun x => x)) 5
  have c8 := cell_blk (k1.block _ _ hb1.out (fun x => x)) 8
  have c13 := cell_blk (k1.block _ _ hb1.out (fun x => x)) 13
  have e5 := cell_blk (k1.block _ _ hb2.out (fun x => x)) 5
  have e8 := cell_blk (k1.block _ _ hb2.out (fun x => x)) 8
  have e13 := cell_blk (k1.block _ _ hb2.out (fun x => x)) 13
  rw [u5.out] at c5
  rw [u8.out] at c8
  rw [u13.out] at c13
  rw [v5.out] at e5
  rw [v8.out] at e8
  rw [v13.out] at e13
  replace k0 := Hid.mk (k0.out.trans k1)
  clear k1
  go_wp2_with fail
  go_ret
  exact ⟨rfl, k0.out⟩

/-- What the last statement reads. -/
structure USt (b1 b2 : Nat) (c : CallV) (a : Option Addr) (q : Nat) (d : CallV) (a2 : Option Addr) (q2 : Nat) (ap : Option Addr) (L : List UInt8) (ap2 : Option Addr) (L2 : List UInt8) (w : World) : Prop where
  h1 : w.heap[b1]? = some (.cells (c.cells a q) 50 (0, 0))
  h2 : w.heap[b2]? = some (.cells (d.cells a2 q2) 50 (0, 0))
  r1 : Rd w w.heap.size a (bys c.data)
  r2 : Rd w w.heap.size a2 (bys d.data)
  p1 : Rd w w.heap.size ap (bys L)
  p2 : Rd w w.heap.size ap2 (bys L2)
theorem USt.kp {b1 b2 : Nat} {c : CallV} {a : Option Addr} {q : Nat} {d : CallV} {a2 : Option Addr} {q2 : Nat} {ap : Option Addr} {L : List UInt8} {ap2 : Option Addr} {L2 : List UInt8} {w w' : World}
    (h : USt b1 b2 c a q d a2 q2 ap L ap2 L2 w) (k : Kp Nn w w') : USt b1 b2 c a q d a2 q2 ap L ap2 L2 w' :=
  ⟨k.block _ _ h.h1 (fun x => x), k.block _ _ h.h2 (fun x => x), (h.r1.kp k (fun _ _ _ x => x)).mono k.size, (h.r2.kp k (fun _ _ _ x => x)).mono k.size, (h.p1.kp k (fun _ _ _ x => x)).mono k.size, (h.p2.kp k (fun _ _ _ x => x)).mono k.size⟩
theorem info_call : (Tryd.prog.info? 50).map (·.size) = some 14 := by kernel_rfl

end Go.Proofs.YtnfcjfbepaoimaaDoor
