/- Package call: what an op changes; the document's example. -/
import Derived.Test.YtnfcjfbepaoimaaDoorCallY
import Derived.Deep.DeepCutAuto
set_option linter.unusedVariables false
set_option linter.unusedSimpArgs false
namespace Go.Proofs.YtnfcjfbepaoimaaDoor
open Go.RowKit

def chgL : List Bool := [false, false, false, true, false, true, true, true, true, false, true, true, true, true, false, false, false]
def chg (k : Nat) : Bool := chgL.getD k false
/-- The table lies as the program lays it. -/
def TabC (W : World) : Prop := ∀ k, k < 17 → W.cell? ⟨0, k, none⟩ = some (.bool (chg k))
theorem TabC.kp {W W' : World} (h : TabC W) (k : Kp Nn W W') : TabC W' := fun i hi => k.cell (h i hi) (fun _ x => x)

theorem changes_any (W : World) (h : TabC W) (x : Nat) (hx : x < 4294967296) : Calls Tryd.prog 18 #[.int .u32 (x : Int)] W fun r W' => r = .returned (.bool (chg x)) ∧ W = W' := by
  cases hk : knownOp x with
  | true =>
    have hx2 : 1 ≤ x ∧ x ≤ 16 := by simpa [knownOp] using hk
    obtain ⟨g1, g2⟩ := hx2
    have c0 := h x (by omega)
    replace hk := Hid.mk hk
    clear h
    go_enter Tryd.func18, Tryd.ntmps18
    go_wp2_with (go_at_call 49; refine (known_any _ _ hx).mono ?_; rintro e W2 ⟨rfl, rfl⟩; rw [hk.out])
    go_ret
    exact ⟨rfl, rfl⟩
  | false =>
    have e : chg x = false := by
      have : ¬ (1 ≤ x ∧ x ≤ 16) := by intro h1; simp [knownOp, h1.1, h1.2] at hk
      by_cases h0 : x = 0
      · subst h0; rfl
      · have : 17 ≤ x := by omega
        simp [chg, List.getD, chgL, this]
    replace e := Hid.mk e
    replace hk := Hid.mk hk
    clear h
    go_enter Tryd.func18, Tryd.ntmps18
    go_wp2_with (go_at_call 49; refine (known_any _ _ hx).mono ?_; rintro e W2 ⟨rfl, rfl⟩; rw [hk.out])
    go_ret
    rw [e.out]
    exact ⟨rfl, rfl⟩

def aw0 : CallV := { client := 0, xid := 5, op := 2, atI := 0, atG := 0, name := ⟨#[]⟩, toI := 0, toG := 0, toName := ⟨#[]⟩, offset := 0, verf := 0, count := 0, mode := 0, data := [] }
def aw1 : ReplyV := { client := 0, xid := 0, status := 71, atI := 0, atG := 0, kind := 0, mode := 0, links := 0, size := 0, change := 0, data := [120], entries := [], eof := false, verf := 0, free := 0 }
theorem aw0_put : putC aw0 = (pCall aw0, 0) := by kernel_rfl
theorem aw0_len : (pCall aw0).length = 64 := by kernel_rfl
theorem aw0_7 : (pCall aw0)[7]? = some 5 := by kernel_rfl
theorem aw0_11 : (pCall aw0)[11]? = some 2 := by kernel_rfl
theorem aw0_get : getC (pCall aw0) = (aw0, 0) := by kernel_rfl
theorem aw1_put : putR aw1 = (pReply aw1, 0) := by kernel_rfl
theorem aw1_get : getR (pReply aw1) = (aw1, 0) := by kernel_rfl
theorem aw1_len : (pReply aw1).length ≤ 1000 := by decide +kernel

/-- '[]byte(b)' of bytes in a block that is known whole: the same slice; the block's end is marked. -/
theorem conv_same (w : World) (b n c : Nat) (arr : Array Value) (e : TypeId) (h : w.heap[b]? = some (.cells arr e (0, 0))) :
    (convert 29 29 (.slice (some ⟨b, 0, none⟩) n c)).run Tryd.prog w = .ok (.slice (some ⟨b, 0, none⟩) n c) (w.freeze ⟨b, arr.size, none⟩ 1) := by
  have hsh : w.shape? b = some (e, arr.size) := by simp [World.shape?, h]
  simp [convert, run_underlying Tryd.underlying29, run_underlying Tryd.underlying5, markStringish, hsh, Result.andThen]
theorem freeze_kp (w : World) (b n k : Nat) : Kp (On b) w (w.freeze ⟨b, n, none⟩ k) := by
  unfold World.freeze
  by_cases hk : k = 0
  · rw [if_pos hk]; exact Kp.refl _ _
  · rw [if_neg hk]
    refine ⟨rfl, rfl, rfl, by simp, fun i o hi hn => ?_⟩
    have : ¬ b = i := fun e => hn e.symm
    simp [Array.getElem?_modify, this, hi]
theorem freeze_cell (w : World) (b n k : Nat) (a : Addr) : (w.freeze ⟨b, n, none⟩ k).cell? a = w.cell? a := by
  unfold World.freeze
  by_cases hk : k = 0
  · rw [if_pos hk]
  · rw [if_neg hk]
    simp only [World.cell?, Array.getElem?_modify]
    by_cases e : b = a.block
    · subst e
      rw [if_pos rfl]
      cases h : w.heap[a.block]? with
      | none => rfl
      | some o => cases o <;> rfl
    · simp [e]

set_option maxRecDepth 100000 in
set_option maxHeartbeats 2000000 in
theorem awake_any (W : World) (hT : TabC W) : Calls Tryd.prog 8 #[] W fun r W' => r = .returned (.bool true) ∧ Kp Nn W W' := by
  go_enter Tryd.func8, Tryd.ntmps8
  go_wp2_with fail
  refine (putCall_any W 0 none 0 aw0 (by simp [CallV.ok, aw0]) (Rd.nil _ _ _) (Nat.zero_le _)).mono ?_
  rw [aw0_put]
  have hlen := aw0_len
  have h7 := aw0_7
  have h11 := aw0_11
  have hg := aw0_get
  generalize pCall aw0 = L at *
  rintro e W1 ⟨a1, q1, rfl, hq1, hr1, k1, _⟩
  dsimp only at hq1 hr1 ⊢
  obtain ⟨b1, o1, rfl, _, c7⟩ := hr1.at 7 (bt8 5) (by simp [h7])
  obtain ⟨_, _, e2, _, c11⟩ := hr1.at 11 (bt8 2) (by simp [h11])
  cases e2
  simp only [bt8] at c7 c11
  have hT1 := hT.kp k1
  replace hr1 := Hid.mk hr1
  replace k1 := Hid.mk k1
  replace hlen := Hid.mk hlen
  clear h7 h11 hT
  go_wp2_with fail
  refine (getCall_any W1 _ _ q1 L hr1.out (by rw [hlen.out]; omega)).mono ?_
  rw [hg]
  rintro e W2 ⟨a2, q2, rfl, hq2, hr2, k2⟩
  clear hr2 hq2
  replace k2 := Hid.mk k2
  dsimp only [CallV.cells, aw0]
  have hcs := conv_same ((W2.alloc (.cells #[.int .u32 0, .int .u32 5, .int .u32 2, .int .u32 0, .int .u32 0, .string ⟨#[]⟩, .int .u32 0, .int .u32 0, .string ⟨#[]⟩, .int .u64 0, .int .u64 0, .int .u32 0, .int .u32 0, .slice a2 0 q2] 50)).alloc (.cells #[.int .u8 120] 5)) (W2.heap.size + 1) 1 1 #[.int .u8 120] 5 (by have := blk_new (W2.alloc (.cells #[.int .u32 0, .int .u32 5, .int .u32 2, .int .u32 0, .int .u32 0, .string ⟨#[]⟩, .int .u32 0, .int .u32 0, .string ⟨#[]⟩, .int .u64 0, .int .u64 0, .int .u32 0, .int .u32 0, .slice a2 0 q2] 50)) (.cells #[.int .u8 120] 5); simpa using this)
  go_wp2_with fail
  have hx := blk_new W2 (.cells #[.int .u32 0, .int .u32 5, .int .u32 2, .int .u32 0, .int .u32 0, .string ⟨#[]⟩, .int .u32 0, .int .u32 0, .string ⟨#[]⟩, .int .u64 0, .int .u64 0, .int .u32 0, .int .u32 0, .slice a2 0 q2] 50)
  have hy := blk_new (W2.alloc (.cells #[.int .u32 0, .int .u32 5, .int .u32 2, .int .u32 0, .int .u32 0, .string ⟨#[]⟩, .int .u32 0, .int .u32 0, .string ⟨#[]⟩, .int .u64 0, .int .u64 0, .int .u32 0, .int .u32 0, .slice a2 0 q2] 50)) (.cells #[.int .u8 120] 5)
  have esz : (W2.alloc (.cells #[.int .u32 0, .int .u32 5, .int .u32 2, .int .u32 0, .int .u32 0, .string ⟨#[]⟩, .int .u32 0, .int .u32 0, .string ⟨#[]⟩, .int .u64 0, .int .u64 0, .int .u32 0, .int .u32 0, .slice a2 0 q2] 50)).heap.size = W2.heap.size + 1 := by simp
  rw [esz] at hy
  have hx2 := blk_alloc hx (.cells #[.int .u8 120] 5)
  have kf := freeze_kp ((W2.alloc (.cells #[.int .u32 0, .int .u32 5, .int .u32 2, .int .u32 0, .int .u32 0, .string ⟨#[]⟩, .int .u32 0, .int .u32 0, .string ⟨#[]⟩, .int .u64 0, .int .u64 0, .int .u32 0, .int .u32 0, .slice a2 0 q2] 50)).alloc (.cells #[.int .u8 120] 5)) (W2.heap.size + 1) 1 1
  have hx3 := kf.block _ _ hx2 (fun x => by have : W2.heap.size = W2.heap.size + 1 := x; omega)
  have k3 : Kp Nn W2 (((W2.alloc (.cells #[.int .u32 0, .int .u32 5, .int .u32 2, .int .u32 0, .int .u32 0, .string ⟨#[]⟩, .int .u32 0, .int .u32 0, .string ⟨#[]⟩, .int .u64 0, .int .u64 0, .int .u32 0, .int .u32 0, .slice a2 0 q2] 50)).alloc (.cells #[.int .u8 120] 5)).freeze ⟨W2.heap.size + 1, 1, none⟩ 1) :=
    ((((Kp.refl (fun k _ => W2.heap.size ≤ k) W2).alloc _).alloc _).trans (kf.mono (fun k o x => by have : k = W2.heap.size + 1 := x; omega))).weak (fun k o hk x => by simp only [Nn]; omega)
  have cy : (((W2.alloc (.cells #[.int .u32 0, .int .u32 5, .int .u32 2, .int .u32 0, .int .u32 0, .string ⟨#[]⟩, .int .u32 0, .int .u32 0, .string ⟨#[]⟩, .int .u64 0, .int .u64 0, .int .u32 0, .int .u32 0, .slice a2 0 q2] 50)).alloc (.cells #[.int .u8 120] 5)).freeze ⟨W2.heap.size + 1, 1, none⟩ 1).cell? ⟨W2.heap.size + 1, 0, none⟩ = some (.int .u8 120) := by rw [freeze_cell]; exact cell_blk hy 0
  have esz3 : W2.heap.size + 2 = (((W2.alloc (.cells #[.int .u32 0, .int .u32 5, .int .u32 2, .int .u32 0, .int .u32 0, .string ⟨#[]⟩, .int .u32 0, .int .u32 0, .string ⟨#[]⟩, .int .u64 0, .int .u64 0, .int .u32 0, .int .u32 0, .slice a2 0 q2] 50)).alloc (.cells #[.int .u8 120] 5)).freeze ⟨W2.heap.size + 1, 1, none⟩ 1).heap.size := by simp [World.freeze]
  generalize ((W2.alloc (.cells #[.int .u32 0, .int .u32 5, .int .u32 2, .int .u32 0, .int .u32 0, .string ⟨#[]⟩, .int .u32 0, .int .u32 0, .string ⟨#[]⟩, .int .u64 0, .int .u64 0, .int .u32 0, .int .u32 0, .slice a2 0 q2] 50)).alloc (.cells #[.int .u8 120] 5)).freeze ⟨W2.heap.size + 1, 1, none⟩ 1 = W3 at *
  have r1 : Rd W3 W3.heap.size (some ⟨W2.heap.size + 1, 0, none⟩) (bys aw1.data) := fun _ => ⟨W2.heap.size + 1, 0, rfl, by omega, fun j u hu => by
    have hj : j = 0 := by
      have := (List.getElem?_eq_some_iff.1 hu).1
      simp [aw1] at this
      omega
    subst hj
    have : u = .int .u8 120 := by simpa [aw1, bt8] using hu.symm
    rw [this]
    exact cy⟩
  clear hcs hx hy esz hx2 kf cy esz3
  refine (putReply_any W3 _ _ 1 none 0 aw1 (by simp [ReplyV.ok, aw1]) r1 (Rd.nil _ _ _) (Nat.le_refl _)).mono ?_
  rw [aw1_put]
  have hl2 := aw1_len
  have hg2 := aw1_get
  generalize pReply aw1 = L2 at *
  rintro e W4 ⟨a4, q4, rfl, hq4, hr4, k4, _⟩
  dsimp only at hq4 hr4 ⊢
  have hx4 := k4.block _ _ hx3 (fun x => x)
  clear hx3 r1 hg
  replace hx4 := Hid.mk hx4
  replace hr4 := Hid.mk hr4
  replace k3 := Hid.mk k3
  replace k4 := Hid.mk k4
  have hln := hlen.out
  go_upto_region 4 with fail
  go_cut [1, 2, 3, 4, 6, 7, 8] (fun t1 t2 t3 t4 t6 t7 t8 wc => ∃ a5 q5 rb, t1 = .slice (some ⟨b1, o1, none⟩) 64 q1 ∧ t2 = .int .i64 0 ∧ t3 = .pointer (some ⟨W2.heap.size, 0, none⟩) ∧ t4 = .int .i64 0 ∧ t6 = .int .i64 0 ∧ t7 = .pointer (some ⟨rb, 0, none⟩) ∧ t8 = .int .i64 0 ∧
    Hid (Kp Nn W wc) ∧ Hid (TabC wc) ∧ wc.cell? ⟨b1, o1 + 7, none⟩ = some (.int .u8 5) ∧ wc.cell? ⟨b1, o1 + 11, none⟩ = some (.int .u8 2) ∧ wc.cell? ⟨W2.heap.size, 1, none⟩ = some (.int .u32 5) ∧
    wc.cell? ⟨rb, 2, none⟩ = some (.int .i64 71) ∧ wc.cell? ⟨rb, 10, none⟩ = some (.slice a5 1 q5) ∧ Hid (Rd wc wc.heap.size a5 (bys [120])))
  case first =>
    go_wp2_with fail
    refine (getReply_any W4 _ _ q4 L2 hr4.out (by omega)).mono ?_
    rw [hg2]
    rintro e W5 ⟨a5, q5, a6, q6, rfl, hq5, hq6, hr5, hr6, k5⟩
    have k15 := ((k2.out.trans k3.out).trans k4.out).trans k5
    have ka : Kp Nn W5 (W5.alloc (.cells (aw1.cells a5 q5 a6 q6) 32)) := (Kp.refl Nn W5).alloc _
    have kall := k15.trans ka
    have hb := blk_new W5 (.cells (aw1.cells a5 q5 a6 q6) 32)
    have hx5 := ka.block _ _ (k5.block _ _ hx4.out (fun x => x)) (fun x => x)
    have r5 := hr5.kp ka (fun _ _ _ x => x)
    have hT5 := (hT1.kp kall)
    have d7 := kall.cell c7 (fun _ x => x)
    have d11 := kall.cell c11 (fun _ x => x)
    have dx := cell_blk hx5 1
    have e2 := cell_blk hb 2
    have e10 := cell_blk hb 10
    replace kall := Hid.mk (k1.out.trans kall)
    replace hT5 := Hid.mk hT5
    replace d7 := Hid.mk d7
    replace d11 := Hid.mk d11
    replace dx := Hid.mk dx
    replace e2 := Hid.mk e2
    replace e10 := Hid.mk e10
    replace r5 := Hid.mk (r5.mono ka.size)
    clear hb hx5 ka k15 hr5 hr6 k5
    go_wp2_with fail
    go_meet
    case rel => exact ⟨a5, q5, _, rfl, rfl, rfl, rfl, rfl, rfl, rfl, kall, hT5, d7.out, d11.out, dx.out, e2.out, e10.out, r5⟩
  case rest =>
    obtain ⟨a5, q5, rb, rfl, rfl, rfl, rfl, rfl, rfl, rfl, k9, hT9, d7, d11, dx, e2, e10, r5⟩ := hcut
    have hcv := run_b2s (P := Tryd.prog) wc 29 9 5 wc.heap.size q5 a5 [120] Tryd.underlying29 Tryd.underlying5 Tryd.underlying9 r5.out
    simp at hcv
    clear hln hlen hx4 hr4 k1 k2 k3 k4 hT1 c7 c11 hg2 hl2 hr1
    go_wp2_with (go_at_call 18; first
      | (refine (changes_any _ hT9.out 12 (by omega)).mono ?_; rintro e W6 ⟨rfl, rfl⟩; rw [show chg 12 = true from rfl])
      | (refine (changes_any _ hT9.out 16 (by omega)).mono ?_; rintro e W6 ⟨rfl, rfl⟩; rw [show chg 16 = false from rfl]))
    go_ret
    exact ⟨rfl, k9.out⟩
end Go.Proofs.YtnfcjfbepaoimaaDoor
