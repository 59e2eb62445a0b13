/- Package call: a reply's bytes. -/
import Derived.Test.YtnfcjfbepaoimaaDoorCallG
set_option linter.unusedVariables false
set_option linter.unusedSimpArgs false
namespace Go.Proofs.YtnfcjfbepaoimaaDoor
open Go.RowKit

/-- A reply. -/
structure ReplyV where
  client : Nat
  xid : Nat
  status : Int
  atI : Nat
  atG : Nat
  kind : Nat
  mode : Nat
  links : Nat
  size : Nat
  change : Nat
  data : List UInt8
  entries : List Ent
  eof : Bool
  verf : Nat
  free : Nat

def ReplyV.ok (c : ReplyV) : Prop := c.client < 4294967296 ∧ c.xid < 4294967296 ∧ c.atI < 4294967296 ∧ c.atG < 4294967296 ∧ c.kind < 4294967296 ∧ c.mode < 4294967296 ∧ c.links < 4294967296 ∧ c.size < 4294967296 ∧
  c.change < 18446744073709551616 ∧ c.verf < 18446744073709551616 ∧ c.free < 4294967296 ∧ ∀ e ∈ c.entries, e.ok
abbrev ReplyV.cells (c : ReplyV) (a : Option Addr) (q : Nat) (a2 : Option Addr) (q2 : Nat) : Array Value := #[.int .u32 (c.client : Int), .int .u32 (c.xid : Int), .int .i64 c.status, .int .u32 (c.atI : Int), .int .u32 (c.atG : Int),
  .int .u32 (c.kind : Int), .int .u32 (c.mode : Int), .int .u32 (c.links : Int), .int .u32 (c.size : Int), .int .u64 (c.change : Int), .slice a c.data.length q, .slice a2 c.entries.length q2, .bool c.eof, .int .u64 (c.verf : Int), .int .u32 (c.free : Int)]
def ReplyV.big (c : ReplyV) : Bool := !okStatus c.status || decide (1024 < c.data.length) || decide (24 < c.entries.length)
def pReply (c : ReplyV) : List UInt8 := [] ++ pU32 c.client ++ pU32 c.xid ++ pU32 c.status.toNat ++ (pU32 c.atI ++ pU32 c.atG) ++ pU32 c.kind ++ pU32 c.mode ++ pU32 c.links ++ pU32 c.size ++ pU64 c.change ++
  pOpaque c.data ++ pOpaque (putEs c.entries) ++ pBool c.eof ++ pU64 c.verf ++ pU32 c.free
def putR (c : ReplyV) : List UInt8 × Int := if c.big then ([], 1) else if (putD c.entries).2 ≠ 0 then ([], (putD c.entries).2) else (pReply c, 0)

theorem okStatus_le {n : Int} (h : okStatus n = true) : 0 ≤ n ∧ n ≤ 71 := by
  simp [okStatus] at h
  omega

set_option maxRecDepth 100000 in
set_option maxHeartbeats 4000000 in
theorem putReply_any (W : World) (N : Nat) (a : Option Addr) (q : Nat) (a2 : Option Addr) (q2 : Nat) (c : ReplyV) (hok : c.ok) (h : Rd W N a (bys c.data)) (h2 : Rd W N a2 (eCells c.entries)) (hN : N ≤ W.heap.size) :
    Calls Tryd.prog 9 #[.agg (c.cells a q a2 q2)] W (OutBE Nn W (putR c)) := by
  obtain ⟨client, xid, status, atI, atG, kind, mode, links, size, change, data, entries, eof, verf, free⟩ := c
  obtain ⟨h1, h3, h4, h5, h6, h7, h8, h9, h10, h11, h12, hent⟩ := hok
  dsimp only [ReplyV.cells] at *
  cases hk : okStatus status with
  | false =>
    replace hk := Hid.mk hk
    have hfin : Hid (putR ⟨client, xid, status, atI, atG, kind, mode, links, size, change, data, entries, eof, verf, free⟩ = ([], 1)) := by unfold Hid; simp [putR, ReplyV.big, hk.out]
    go_enter Tryd.func9, Tryd.ntmps9
    go_wp2_with (go_at_call 19; refine (status_any _ _).mono ?_; rintro e W2 ⟨rfl, rfl⟩; rw [hk.out])
    go_ret2
    rw [hfin.out]
    exact ⟨none, 0, rfl, Nat.le_refl _, Rd.nil _ _ _, (Kp.refl _ _).alloc _, World.ownsRow_nil _ _ _ _⟩
  | true =>
    have hst := okStatus_le hk
    replace hk := Hid.mk hk
    by_cases hd : 1024 < data.length
    · have hfin : Hid (putR ⟨client, xid, status, atI, atG, kind, mode, links, size, change, data, entries, eof, verf, free⟩ = ([], 1)) := by unfold Hid; simp [putR, ReplyV.big, hd]
      go_enter Tryd.func9, Tryd.ntmps9
      go_wp2_with (go_at_call 19; refine (status_any _ _).mono ?_; rintro e W2 ⟨rfl, rfl⟩; rw [hk.out])
      go_ret2
      rw [hfin.out]
      exact ⟨none, 0, rfl, Nat.le_refl _, Rd.nil _ _ _, (Kp.refl _ _).alloc _, World.ownsRow_nil _ _ _ _⟩
    by_cases ht : 24 < entries.length
    · have hfin : Hid (putR ⟨client, xid, status, atI, atG, kind, mode, links, size, change, data, entries, eof, verf, free⟩ = ([], 1)) := by unfold Hid; simp [putR, ReplyV.big, ht]
      go_enter Tryd.func9, Tryd.ntmps9
      go_wp2_with (go_at_call 19; refine (status_any _ _).mono ?_; rintro e W2 ⟨rfl, rfl⟩; rw [hk.out])
      go_ret2
      rw [hfin.out]
      exact ⟨none, 0, rfl, Nat.le_refl _, Rd.nil _ _ _, (Kp.refl _ _).alloc _, World.ownsRow_nil _ _ _ _⟩
    have hfin : Hid (putR ⟨client, xid, status, atI, atG, kind, mode, links, size, change, data, entries, eof, verf, free⟩ = if (putD entries).2 ≠ 0 then ([], (putD entries).2) else (pReply ⟨client, xid, status, atI, atG, kind, mode, links, size, change, data, entries, eof, verf, free⟩, 0)) := by unfold Hid; simp [putR, ReplyV.big, hk.out, ht, hd]
    have hb0 := blk_new W (.cells (ReplyV.cells ⟨client, xid, status, atI, atG, kind, mode, links, size, change, data, entries, eof, verf, free⟩ a q a2 q2) 32)
    have hr0 : Rd (W.alloc (.cells (ReplyV.cells ⟨client, xid, status, atI, atG, kind, mode, links, size, change, data, entries, eof, verf, free⟩ a q a2 q2) 32)) N a (bys data) := h.alloc _
    have hr2 : Rd (W.alloc (.cells (ReplyV.cells ⟨client, xid, status, atI, atG, kind, mode, links, size, change, data, entries, eof, verf, free⟩ a q a2 q2) 32)) N a2 (eCells entries) := h2.alloc _
    have k0 : Kp Nn W (W.alloc (.cells (ReplyV.cells ⟨client, xid, status, atI, atG, kind, mode, links, size, change, data, entries, eof, verf, free⟩ a q a2 q2) 32)) := (Kp.refl _ _).alloc _
    have hN0 : N ≤ (W.alloc (.cells (ReplyV.cells ⟨client, xid, status, atI, atG, kind, mode, links, size, change, data, entries, eof, verf, free⟩ a q a2 q2) 32)).heap.size := by simp; omega
    replace hb0 := Hid.mk hb0
    replace hr0 := Hid.mk hr0
    replace hr2 := Hid.mk hr2
    replace k0 := Hid.mk k0
    replace hN0 := Hid.mk hN0
    replace hent := Hid.mk hent
    clear h h2
    go_enter Tryd.func9, Tryd.ntmps9
    go_wp2_with (go_at_call 19; refine (status_any _ _).mono ?_; rintro e W2 ⟨rfl, rfl⟩; rw [hk.out])
    refine (dput_any _ N a2 q2 entries hr2.out hN0.out (by omega) hent.out).mono ?_
    generalize W.alloc (.cells (ReplyV.cells ⟨client, xid, status, atI, atG, kind, mode, links, size, change, data, entries, eof, verf, free⟩ a q a2 q2) 32) = Wb at *
    cases hm : mayL entries with
    | false =>
      have ed : putD entries = ([], 11) := by simp [putD, hm]
      rw [ed]
      rintro e W1 ⟨a3, q3, rfl, _, _, k1, _⟩
      replace k1 := Hid.mk (k0.out.trans k1)
      replace ed := Hid.mk ed
      clear hm
      go_wp2_with fail
      go_ret2
      rw [hfin.out, ed.out]
      exact ⟨none, 0, rfl, Nat.le_refl _, Rd.nil _ _ _, k1.out, World.ownsRow_nil _ _ _ _⟩
    | true =>
    have ed : putD entries = (putEs entries, 0) := by simp [putD, hm]
    have hpl := putEs_length (mayP_names entries [] hm)
    rw [ed]
    rintro e W0 ⟨a3, q3, rfl, hq3, hr3, k1, _⟩
    replace hb0 := Hid.mk (k1.block _ _ hb0.out (fun x => x))
    replace hr0 := Hid.mk ((hr0.out.mono hN0.out).kp k1 (fun _ _ _ x => x))
    have hN1 := Hid.mk k1.size
    replace k0 := Hid.mk (k0.out.trans k1)
    replace ed := Hid.mk ed
    replace hr3 := Hid.mk hr3
    clear hm k1 hr2
    have hrow : Hid ((pOpaque (putEs entries)).length ≤ 1128 + 7) := pOpaque_le (by omega)
    generalize hpe : putEs entries = row at *
    replace hpe := Hid.mk hpe
    go_wp2_with fail
    refine (sNew _).mono ?_
    rintro e W1 ⟨wb, rfl, hs, kz⟩
    have hl : Hid ((([] : List UInt8)).length ≤ 0) := Nat.le_refl _
    replace hs := Hid.mk hs
    clear kz
    have hb := hs.out.2.block _ _ hb0.out (fun x => x)
    have c0 := cell_blk hb 0
    simp [ReplyV.cells] at c0
    clear hb
    go_wp2_with fail
    have hl' := hl.out
    refine (sU32 hs.out (by omega) client h1).mono ?_
    rintro e W1 ⟨rfl, hs', _⟩
    replace hl := Hid.mk (app_le hl.out (Nat.le_of_eq (pU32_length client)))
    replace hs := Hid.mk hs'
    clear c0 hs' hl'
    have hb := hs.out.2.block _ _ hb0.out (fun x => x)
    have c1 := cell_blk hb 1
    simp [ReplyV.cells] at c1
    clear hb
    go_wp2_with fail
    have hl' := hl.out
    refine (sU32 hs.out (by omega) xid h3).mono ?_
    rintro e W1 ⟨rfl, hs', _⟩
    replace hl := Hid.mk (app_le hl.out (Nat.le_of_eq (pU32_length xid)))
    replace hs := Hid.mk hs'
    clear c1 hs' hl'
    have hb := hs.out.2.block _ _ hb0.out (fun x => x)
    have c2 := cell_blk hb 2
    simp [ReplyV.cells] at c2
    clear hb
    go_wp2_with fail
    have hl' := hl.out
    rw [show Value.int IntKind.u32 status = Value.int IntKind.u32 ((status.toNat : Nat) : Int) from congrArg _ (by omega)]
    refine (sU32 hs.out (by omega) status.toNat (by omega)).mono ?_
    rintro e W1 ⟨rfl, hs', _⟩
    replace hl := Hid.mk (app_le hl.out (Nat.le_of_eq (pU32_length status.toNat)))
    replace hs := Hid.mk hs'
    clear c2 hs' hl'
    have hb := hs.out.2.block _ _ hb0.out (fun x => x)
    have c3 := cell_blk hb 3
    have c4 := cell_blk hb 4
    simp [ReplyV.cells] at c3 c4
    clear hb
    go_wp2_with fail
    have hl' := hl.out
    refine (handle_any hs.out (by omega) atI atG h4 h5).mono ?_
    rintro e W1 ⟨rfl, hs', _⟩
    replace hl := Hid.mk (app_le hl.out (Nat.le_of_eq (pHdl_length atI atG)))
    replace hs := Hid.mk hs'
    clear c3 c4 hs' hl'
    have hb := hs.out.2.block _ _ hb0.out (fun x => x)
    have c5 := cell_blk hb 5
    simp [ReplyV.cells] at c5
    clear hb
    go_wp2_with fail
    have hl' := hl.out
    refine (sU32 hs.out (by omega) kind h6).mono ?_
    rintro e W1 ⟨rfl, hs', _⟩
    replace hl := Hid.mk (app_le hl.out (Nat.le_of_eq (pU32_length kind)))
    replace hs := Hid.mk hs'
    clear c5 hs' hl'
    have hb := hs.out.2.block _ _ hb0.out (fun x => x)
    have c6 := cell_blk hb 6
    simp [ReplyV.cells] at c6
    clear hb
    go_wp2_with fail
    have hl' := hl.out
    refine (sU32 hs.out (by omega) mode h7).mono ?_
    rintro e W1 ⟨rfl, hs', _⟩
    replace hl := Hid.mk (app_le hl.out (Nat.le_of_eq (pU32_length mode)))
    replace hs := Hid.mk hs'
    clear c6 hs' hl'
    have hb := hs.out.2.block _ _ hb0.out (fun x => x)
    have c7 := cell_blk hb 7
    simp [ReplyV.cells] at c7
    clear hb
    go_wp2_with fail
    have hl' := hl.out
    refine (sU32 hs.out (by omega) links h8).mono ?_
    rintro e W1 ⟨rfl, hs', _⟩
    replace hl := Hid.mk (app_le hl.out (Nat.le_of_eq (pU32_length links)))
    replace hs := Hid.mk hs'
    clear c7 hs' hl'
    have hb := hs.out.2.block _ _ hb0.out (fun x => x)
    have c8 := cell_blk hb 8
    simp [ReplyV.cells] at c8
    clear hb
    go_wp2_with fail
    have hl' := hl.out
    refine (sU32 hs.out (by omega) size h9).mono ?_
    rintro e W1 ⟨rfl, hs', _⟩
    replace hl := Hid.mk (app_le hl.out (Nat.le_of_eq (pU32_length size)))
    replace hs := Hid.mk hs'
    clear c8 hs' hl'
    have hb := hs.out.2.block _ _ hb0.out (fun x => x)
    have c9 := cell_blk hb 9
    simp [ReplyV.cells] at c9
    clear hb
    go_wp2_with fail
    have hl' := hl.out
    refine (sU64 hs.out (by omega) change h10).mono ?_
    rintro e W1 ⟨rfl, hs', _⟩
    replace hl := Hid.mk (app_le hl.out (Nat.le_of_eq (pU64_length change)))
    replace hs := Hid.mk hs'
    clear c9 hs' hl'
    have hb := hs.out.2.block _ _ hb0.out (fun x => x)
    have c10 := cell_blk hb 10
    simp [ReplyV.cells] at c10
    clear hb
    go_wp2_with fail
    have hl' := hl.out
    refine (sOpaque hs.out (by omega) hr0.out hN1.out (by omega)).mono ?_
    rintro e W1 ⟨rfl, hs', _⟩
    replace hl := Hid.mk (app_le hl.out (pOpaque_le (l := data) (n := 1024) (by omega)))
    replace hs := Hid.mk hs'
    clear c10 hs' hl'
    have hb := hs.out.2.block _ _ hb0.out (fun x => x)
    clear hb
    go_wp2_with fail
    have hl' := hl.out
    refine (sOpaque hs.out (by omega) hr3.out (Nat.le_refl _) (by omega)).mono ?_
    rintro e W1 ⟨rfl, hs', _⟩
    replace hl := Hid.mk (app_le hl.out hrow.out)
    replace hs := Hid.mk hs'
    clear  hs' hl'
    have hb := hs.out.2.block _ _ hb0.out (fun x => x)
    have c12 := cell_blk hb 12
    simp [ReplyV.cells] at c12
    clear hb
    go_wp2_with fail
    have hl' := hl.out
    refine (sBool hs.out (by omega) eof).mono ?_
    rintro e W1 ⟨rfl, hs', _⟩
    replace hl := Hid.mk (app_le hl.out (Nat.le_of_eq (pBool_length eof)))
    replace hs := Hid.mk hs'
    clear c12 hs' hl'
    have hb := hs.out.2.block _ _ hb0.out (fun x => x)
    have c13 := cell_blk hb 13
    simp [ReplyV.cells] at c13
    clear hb
    go_wp2_with fail
    have hl' := hl.out
    refine (sU64 hs.out (by omega) verf h11).mono ?_
    rintro e W1 ⟨rfl, hs', _⟩
    replace hl := Hid.mk (app_le hl.out (Nat.le_of_eq (pU64_length verf)))
    replace hs := Hid.mk hs'
    clear c13 hs' hl'
    have hb := hs.out.2.block _ _ hb0.out (fun x => x)
    have c14 := cell_blk hb 14
    simp [ReplyV.cells] at c14
    clear hb
    go_wp2_with fail
    have hl' := hl.out
    refine (sU32 hs.out (by omega) free h12).mono ?_
    rintro e W1 ⟨rfl, hs', _⟩
    replace hl := Hid.mk (app_le hl.out (Nat.le_of_eq (pU32_length free)))
    replace hs := Hid.mk hs'
    clear c14 hs' hl'
    have hfin' := hfin.out
    rw [ed.out] at hfin'
    rw [if_neg (by simp)] at hfin'
    unfold pReply at hfin'
    dsimp only at hfin'
    rw [hpe.out] at hfin'
    replace hfin' := Hid.mk hfin'
    generalize [] ++ pU32 client ++ pU32 xid ++ pU32 status.toNat ++ (pU32 atI ++ pU32 atG) ++ pU32 kind ++ pU32 mode ++ pU32 links ++ pU32 size ++ pU64 change ++ pOpaque data ++ pOpaque row ++ pBool eof ++ pU64 verf ++ pU32 free = L at *
    go_wp2_with fail
    have hl' := hl.out
    refine (sOut hs.out (by omega)).mono ?_
    rintro e W3 ⟨a4, c4, rfl, hc4, hr4, k3, ow3⟩
    replace ow3 := Hid.mk (own_base (base' := W.heap.size) ow3 (k0.out.trans hs.out.2).size)
    replace hr4 := Hid.mk hr4
    replace k3 := Hid.mk (k0.out.trans (hs.out.2.trans k3))
    clear hl'
    go_wp2_with fail
    go_ret2
    rw [hfin'.out]
    exact ⟨a4, c4, rfl, hc4, hr4.out, k3.out, ow3.out⟩
end Go.Proofs.YtnfcjfbepaoimaaDoor
