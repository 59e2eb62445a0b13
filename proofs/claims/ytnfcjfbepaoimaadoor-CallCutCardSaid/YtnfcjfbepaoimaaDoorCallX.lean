/- The law CallCut: its walk. -/
import Derived.Test.YtnfcjfbepaoimaaDoorCallT
import Derived.Test.YtnfcjfbepaoimaaDoorCodecC
import Derived.Laws.Rows
import Derived.Deep.DeepCutAuto
set_option linter.unusedVariables false
set_option linter.unusedSimpArgs false
namespace Go.Proofs.YtnfcjfbepaoimaaDoor
open Go.RowKit

theorem info_call : (Tryd.prog.info? 50).map (·.size) = some 14 := by kernel_rfl
theorem info_reply : (Tryd.prog.info? 32).map (·.size) = some 15 := by kernel_rfl

theorem pReply_lo (c : ReplyV) : 64 ≤ (pReply c).length := by
  simp only [pReply, List.length_append, List.length_nil, pU32_length, pU64_length, pOpaque_length, pBool_length]
  omega
theorem pReply_hi {c : ReplyV} (h : c.big = false) (hm : mayL c.entries = true) : (pReply c).length ≤ 8192 := by
  obtain ⟨h1, h2, h3⟩ := bigR_false h
  have h4 := row_le hm h3
  have f1 := fill_lt c.data.length
  have f2 := fill_lt (putEs c.entries).length
  simp only [pReply, List.length_append, List.length_nil, pU32_length, pU64_length, pOpaque_length, pBool_length]
  omega
theorem pCall_lo (c : CallV) : 64 ≤ (pCall c).length := by
  simp only [pCall, List.length_append, List.length_nil, pU32_length, pU64_length, pOpaque_length]
  omega
theorem pCall_hi {c : CallV} (h : c.big = false) : (pCall c).length ≤ 4096 := by
  obtain ⟨h1, h2, h3, h4⟩ := big_false h
  have f1 := fill_lt c.name.data.toList.length
  have f2 := fill_lt c.toName.data.toList.length
  have f3 := fill_lt c.data.length
  have e1 : c.name.data.toList.length = c.name.size := by simp
  have e2 : c.toName.data.toList.length = c.toName.size := by simp
  simp only [pCall, List.length_append, List.length_nil, pU32_length, pU64_length, pOpaque_length]
  omega

set_option maxRecDepth 100000 in
set_option maxHeartbeats 4000000 in
theorem callCut_early1 (W : World) (hT : TabC W) (c : CallV) (a : Option Addr) (q : Nat) (x : ReplyV) (a2 : Option Addr) (q2 : Nat) (a3 : Option Addr) (q3 : Nat) (k : Nat) (am : Option Addr) (qm : Nat) :
    Calls Tryd.prog 4 #[.agg (c.cells a q), .agg (x.cells a2 q2 a3 q3), .int .u16 (k : Int), .slice am 0 qm] W fun r W' => r = .returned (.bool true) ∧ Kp Nn W W' := by
  have hb1 := blk_alloc (blk_new W (.cells (c.cells a q) 50)) (.cells (x.cells a2 q2 a3 q3) 32)
  have hb2 := blk_new (W.alloc (.cells (c.cells a q) 50)) (.cells (x.cells a2 q2 a3 q3) 32)
  have k0 : Kp Nn W ((W.alloc (.cells (c.cells a q) 50)).alloc (.cells (x.cells a2 q2 a3 q3) 32)) := ((Kp.refl _ _).alloc _).alloc _
  have hT0 := hT.kp k0
  have esz : (W.alloc (.cells (c.cells a q) 50)).heap.size = W.heap.size + 1 := by simp
  rw [esz] at hb2
  have r11 : (x.cells a2 q2 a3 q3)[11]? = some (.slice a3 x.entries.length q3) := rfl
  clear esz
  generalize hcc : c.cells a q = cc at *
  generalize hrr : x.cells a2 q2 a3 q3 = rr at *
  replace hcc := Hid.mk hcc
  replace hrr := Hid.mk hrr
  replace hb1 := Hid.mk hb1
  replace hb2 := Hid.mk hb2
  replace k0 := Hid.mk k0
  replace hT0 := Hid.mk hT0
  replace r11 := Hid.mk r11
  clear hT
  go_enter Tryd.func4, Tryd.ntmps4
  go_wp2_with fail
  generalize (W.alloc (.cells cc 50)).alloc (.cells rr 32) = W0 at *
  refine (awake_any W0 hT0.out).mono ?_
  rintro e W1 ⟨rfl, k1⟩
  have c11 := cell_blk (k1.block _ _ hb2.out (fun x => x)) 11
  rw [r11.out] at c11
  replace k0 := Hid.mk (k0.out.trans k1)
  clear k1
  go_wp2_with fail
  go_ret
  exact ⟨rfl, k0.out⟩

set_option maxRecDepth 100000 in
set_option maxHeartbeats 4000000 in
theorem callCut_early2 (W : World) (hT : TabC W) (c : CallV) (a : Option Addr) (q : Nat) (x : ReplyV) (a2 : Option Addr) (q2 : Nat) (a3 : Option Addr) (q3 : Nat) (k : Nat) (m : List UInt8) (am : Option Addr) (qm : Nat) (hne : ¬ m = []) (h20 : 20 < m.length) :
    Calls Tryd.prog 4 #[.agg (c.cells a q), .agg (x.cells a2 q2 a3 q3), .int .u16 (k : Int), .slice am m.length qm] W fun r W' => r = .returned (.bool true) ∧ Kp Nn W W' := by
  have hb1 := blk_alloc (blk_new W (.cells (c.cells a q) 50)) (.cells (x.cells a2 q2 a3 q3) 32)
  have hb2 := blk_new (W.alloc (.cells (c.cells a q) 50)) (.cells (x.cells a2 q2 a3 q3) 32)
  have k0 : Kp Nn W ((W.alloc (.cells (c.cells a q) 50)).alloc (.cells (x.cells a2 q2 a3 q3) 32)) := ((Kp.refl _ _).alloc _).alloc _
  have hT0 := hT.kp k0
  have esz : (W.alloc (.cells (c.cells a q) 50)).heap.size = W.heap.size + 1 := by simp
  rw [esz] at hb2
  have r11 : (x.cells a2 q2 a3 q3)[11]? = some (.slice a3 x.entries.length q3) := rfl
  clear esz
  generalize hcc : c.cells a q = cc at *
  generalize hrr : x.cells a2 q2 a3 q3 = rr at *
  replace hcc := Hid.mk hcc
  replace hrr := Hid.mk hrr
  replace hb1 := Hid.mk hb1
  replace hb2 := Hid.mk hb2
  replace k0 := Hid.mk k0
  replace hT0 := Hid.mk hT0
  replace r11 := Hid.mk r11
  clear hT
  have g20 : (20 : Int) < (m.length : Int) := by omega
  have g0 : ((m.length : Int) == 0) = false := by
    have : 0 < m.length := by omega
    simpa using hne
  clear h20
  go_enter Tryd.func4, Tryd.ntmps4
  go_wp2_with fail
  generalize (W.alloc (.cells cc 50)).alloc (.cells rr 32) = W0 at *
  refine (awake_any W0 hT0.out).mono ?_
  rintro e W1 ⟨rfl, k1⟩
  have c11 := cell_blk (k1.block _ _ hb2.out (fun x => x)) 11
  rw [r11.out] at c11
  replace k0 := Hid.mk (k0.out.trans k1)
  clear k1
  go_wp2_with fail
  go_ret
  exact ⟨rfl, k0.out⟩

set_option maxRecDepth 100000 in
set_option maxHeartbeats 4000000 in
theorem callCut_early3 (W : World) (hT : TabC W) (c : CallV) (a : Option Addr) (q : Nat) (x : ReplyV) (a2 : Option Addr) (q2 : Nat) (a3 : Option Addr) (q3 : Nat) (k : Nat) (m : List UInt8) (am : Option Addr) (qm : Nat) (hne : ¬ m = []) (h20 : m.length ≤ 20) (h30 : 30 < x.entries.length) :
    Calls Tryd.prog 4 #[.agg (c.cells a q), .agg (x.cells a2 q2 a3 q3), .int .u16 (k : Int), .slice am m.length qm] W fun r W' => r = .returned (.bool true) ∧ Kp Nn W W' := by
  have hb1 := blk_alloc (blk_new W (.cells (c.cells a q) 50)) (.cells (x.cells a2 q2 a3 q3) 32)
  have hb2 := blk_new (W.alloc (.cells (c.cells a q) 50)) (.cells (x.cells a2 q2 a3 q3) 32)
  have k0 : Kp Nn W ((W.alloc (.cells (c.cells a q) 50)).alloc (.cells (x.cells a2 q2 a3 q3) 32)) := ((Kp.refl _ _).alloc _).alloc _
  have hT0 := hT.kp k0
  have esz : (W.alloc (.cells (c.cells a q) 50)).heap.size = W.heap.size + 1 := by simp
  rw [esz] at hb2
  have r11 : (x.cells a2 q2 a3 q3)[11]? = some (.slice a3 x.entries.length q3) := rfl
  clear esz
  generalize hcc : c.cells a q = cc at *
  generalize hrr : x.cells a2 q2 a3 q3 = rr at *
  replace hcc := Hid.mk hcc
  replace hrr := Hid.mk hrr
  replace hb1 := Hid.mk hb1
  replace hb2 := Hid.mk hb2
  replace k0 := Hid.mk k0
  replace hT0 := Hid.mk hT0
  replace r11 := Hid.mk r11
  clear hT
  have g20 : (m.length : Int) ≤ 20 := by omega
  have g0 : ((m.length : Int) == 0) = false := by simpa using hne
  have g30 : (30 : Int) < (x.entries.length : Int) := by omega
  clear h20 h30
  go_enter Tryd.func4, Tryd.ntmps4
  go_wp2_with fail
  generalize (W.alloc (.cells cc 50)).alloc (.cells rr 32) = W0 at *
  refine (awake_any W0 hT0.out).mono ?_
  rintro e W1 ⟨rfl, k1⟩
  have c11 := cell_blk (k1.block _ _ hb2.out (fun x => x)) 11
  rw [r11.out] at c11
  replace k0 := Hid.mk (k0.out.trans k1)
  clear k1
  go_wp2_with fail
  go_ret
  exact ⟨rfl, k0.out⟩

set_option maxRecDepth 100000 in
set_option maxHeartbeats 8000000 in
theorem callCut_main (W : World) (hT : TabC W) (c : CallV) (a : Option Addr) (q : Nat) (x : ReplyV) (a2 : Option Addr) (q2 : Nat) (a3 : Option Addr) (q3 : Nat) (k : Nat) (m : List UInt8) (am : Option Addr) (qm : Nat)
    (hk : k < 65536) (hne : ¬ m = []) (h20 : m.length ≤ 20) (h30 : x.entries.length ≤ 30) (hco : c.ok) (hxo : x.ok) (hrc : Rd W W.heap.size a (bys c.data)) (hrx : Rd W W.heap.size a2 (bys x.data)) (hre : Rd W W.heap.size a3 (eCells x.entries)) (hrm : Rd W W.heap.size am (bys m)) :
    Calls Tryd.prog 4 #[.agg (c.cells a q), .agg (x.cells a2 q2 a3 q3), .int .u16 (k : Int), .slice am m.length qm] W fun r W' => r = .returned (.bool true) ∧ Kp Nn W W' := by
  have hb1 := blk_alloc (blk_new W (.cells (c.cells a q) 50)) (.cells (x.cells a2 q2 a3 q3) 32)
  have hb2 := blk_new (W.alloc (.cells (c.cells a q) 50)) (.cells (x.cells a2 q2 a3 q3) 32)
  have k0 : Kp Nn W ((W.alloc (.cells (c.cells a q) 50)).alloc (.cells (x.cells a2 q2 a3 q3) 32)) := ((Kp.refl _ _).alloc _).alloc _
  have hT0 := hT.kp k0
  have esz : (W.alloc (.cells (c.cells a q) 50)).heap.size = W.heap.size + 1 := by simp
  rw [esz] at hb2
  have r11 : (x.cells a2 q2 a3 q3)[11]? = some (.slice a3 x.entries.length q3) := rfl
  clear esz
  generalize hcc : c.cells a q = cc at *
  generalize hrr : x.cells a2 q2 a3 q3 = rr at *
  replace hcc := Hid.mk hcc
  replace hrr := Hid.mk hrr
  replace hb1 := Hid.mk hb1
  replace hb2 := Hid.mk hb2
  replace k0 := Hid.mk k0
  replace hT0 := Hid.mk hT0
  replace r11 := Hid.mk r11
  clear hT
  have g20 : (m.length : Int) ≤ 20 := by omega
  have g0 : ((m.length : Int) == 0) = false := by simpa using hne
  have g30 : (x.entries.length : Int) ≤ 30 := by omega
  have hm0 : 0 < m.length := List.length_pos_iff.2 hne
  clear h30
  replace hm0 := Hid.mk hm0
  replace h20 := Hid.mk h20
  replace hrc := Hid.mk (hrc.kp k0.out (fun _ _ _ x => x))
  replace hrx := Hid.mk (hrx.kp k0.out (fun _ _ _ x => x))
  replace hre := Hid.mk (hre.kp k0.out (fun _ _ _ x => x))
  replace hrm := Hid.mk (hrm.kp k0.out (fun _ _ _ x => x))
  have hs0 := Hid.mk k0.out.size
  go_enter Tryd.func4, Tryd.ntmps4
  go_wp2_with fail
  generalize (W.alloc (.cells cc 50)).alloc (.cells rr 32) = W0 at *
  refine (awake_any W0 hT0.out).mono ?_
  rintro e W1 ⟨rfl, k1⟩
  have c11 := cell_blk (k1.block _ _ hb2.out (fun x => x)) 11
  rw [r11.out] at c11
  replace hb1 := Hid.mk (k1.block _ _ hb1.out (fun x => x))
  replace hb2 := Hid.mk (k1.block _ _ hb2.out (fun x => x))
  replace hrc := Hid.mk ((hrc.out.kp k1 (fun _ _ _ x => x)).mono (Nat.le_trans hs0.out k1.size))
  replace hrx := Hid.mk ((hrx.out.kp k1 (fun _ _ _ x => x)).mono (Nat.le_trans hs0.out k1.size))
  replace hre := Hid.mk ((hre.out.kp k1 (fun _ _ _ x => x)).mono (Nat.le_trans hs0.out k1.size))
  replace hrm := Hid.mk ((hrm.out.kp k1 (fun _ _ _ x => x)).mono (Nat.le_trans hs0.out k1.size))
  replace k0 := Hid.mk (k0.out.trans k1)
  clear k1 hs0
  go_wp2_with (refine wpList_load_row rfl 50 _ rfl W.heap.size rfl 50 cc (0, 0) _ hb1.out Tryd.underlying50 rfl (by rw [← hcc.out]; exact info_call) ?_)
  have hpc := putCall_any W1 W1.heap.size a q c hco hrc.out (Nat.le_refl _)
  rw [hcc.out] at hpc
  refine hpc.mono ?_
  clear hpc
  cases hA : c.big with
  | false =>
    have ecut := getC_cut hco hA
    have emore := getC_more hco hA (more := m) hm0.out
    have elo := pCall_lo c
    have ehi := pCall_hi hA
    have ep : putC c = (pCall c, 0) := by simp [putC, hA]
    rw [ep]
    clear ep hA
    generalize pCall c = L at *
    rintro e W2 ⟨ap, qp, rfl, hq2, hr2, k2, ow2⟩
    dsimp only at hq2 hr2 ow2 ⊢
    have hL0 : (0 : Int) < (L.length : Int) := by omega
    have hLne : ¬ L = [] := by rintro rfl; simp at elo
    obtain ⟨j, hj⟩ : ∃ j, j = k % L.length := ⟨_, rfl⟩
    have hjl : j < L.length := by rw [hj]; exact Nat.mod_lt _ (by omega)
    have hjm : ((k : Int) % (L.length : Int)) = (j : Int) := by rw [hj]; omega
    have ej := ecut j hjl
    have hjq : (j : Int) ≤ (qp : Int) := by omega
    have hj0 : (0 : Int) ≤ (j : Int) := by omega
    have hgc := getCall_any W2 W2.heap.size ap qp (L.take j) (by have := hr2.take j; rwa [← List.map_take] at this) (by simp; omega)
    rw [show (L.take j).length = j by simp; omega, ej] at hgc
    have elm : Hid ((L ++ m).length = L.length + m.length) := by unfold Hid; simp
    replace hgc := Hid.mk hgc
    replace emore := Hid.mk emore
    replace elo := Hid.mk elo
    replace hr2 := Hid.mk hr2
    replace ow2 := Hid.mk ow2
    replace k2 := Hid.mk k2
    clear ecut ej hj
    go_wp2_with fail
    refine hgc.out.mono ?_
    clear hgc hjm hjq hj0 hjl
    rintro e W3 ⟨a4, q4, rfl, hq4, hr4, k4⟩
    clear hr4 hq4
    replace k4 := Hid.mk k4
    dsimp only [CallV.cells, noCall]
    obtain ⟨i0, hi, hz0, hz1, hz2⟩ := info_parts info_u8
    replace hi := Hid.mk hi
    replace hz0 := Hid.mk hz0
    replace hz1 := Hid.mk hz1
    replace hz2 := Hid.mk hz2
    go_wp2_with (at_builtin; go_must (refine wpList_app _ rfl (.tmp 62) (.tmp 63) 29 rfl W1.heap.size 5 i0 (.int .u8 0) 1 1 Tryd.underlying29 hi.out hz0.out hz1.out hz2.out rfl (by decide) _ L.length (bys L) rfl ?own am W1.heap.size m.length qm (bys m) rfl ?len ?rd (u8_one m) ?b1 ?b2 ?b3 ?_))
    case own => exact own_kp ow2.out (k4.out.alloc _) (fun _ _ _ _ x => x)
    case len => simp
    case rd => exact (hrm.out.kp k2.out (fun _ _ _ x => x)).kp (k4.out.alloc _) (fun _ _ _ x => x)
    case b1 => unfold maxLen; omega
    case b2 => omega
    case b3 => exact Nat.le_trans k2.out.size (k4.out.alloc _).size
    intro v' w' hown hgrow hat
    have kw : Kp Nn W1 w' := ((k2.out.trans k4.out).alloc _).grown hgrow (fun g hg => .inl (own_blk ow2.out hg).1)
    obtain ⟨a5, c5, rfl, hc5, hr5, _⟩ := own_out hown
    rw [← List.map_append] at hr5
    replace hr5 := Hid.mk hr5
    replace kw := Hid.mk kw
    have hgc := getCall_any w' w'.heap.size a5 c5 (L ++ m) hr5.out (by simp; omega)
    rw [elm.out, emore.out] at hgc
    replace hgc := Hid.mk hgc
    clear hown hgrow hat ow2 hr2 k2 k4 hi hz0 hz1 hz2 hLne hL0 emore
    go_wp2_with fail
    refine hgc.out.mono ?_
    clear hgc
    rintro e W4 ⟨a6, q6, rfl, hq6, hr6, k6⟩
    clear hr6 hq6
    have kX : Hid (Kp Nn W1 (W4.alloc (.cells (noCall.cells a6 q6) 50))) := Hid.mk ((kw.out.trans k6).alloc _)
    clear k6
    dsimp only [CallV.cells, noCall] at kX ⊢
    go_wp2_with (refine wpList_load_row rfl 32 _ rfl (W.heap.size + 1) rfl 32 rr (0, 0) _ (kX.out.block _ _ hb2.out (fun x => x)) Tryd.underlying32 rfl (by rw [← hrr.out]; exact info_reply) ?_)
    generalize W4.alloc _ = WX at *
    have hpr := putReply_any WX WX.heap.size a2 q2 a3 q3 x hxo ((hrx.out.kp kX.out (fun _ _ _ x => x)).mono kX.out.size) ((hre.out.kp kX.out (fun _ _ _ x => x)).mono kX.out.size) (Nat.le_refl _)
    rw [hrr.out] at hpr
    refine hpr.mono ?_
    clear hpr
    by_cases hB : (putR x).2 = 0
    · obtain ⟨hbig, hmay, ep⟩ := putR_ok hB
      have ecut := getR_cut hxo hbig hmay
      have emore := getR_more hxo hbig hmay (more := m) hm0.out
      have elo := pReply_lo x
      have ehi := pReply_hi hbig hmay
      rw [ep]
      clear ep hB hbig hmay
      generalize pReply x = L at *
      rintro e W2 ⟨ap, qp, rfl, hq2, hr2, k2, ow2⟩
      dsimp only at hq2 hr2 ow2 ⊢
      have hL0 : (0 : Int) < (L.length : Int) := by omega
      have hLne : ¬ L = [] := by rintro rfl; simp at elo
      obtain ⟨j, hj⟩ : ∃ j, j = k % L.length := ⟨_, rfl⟩
      have hjl : j < L.length := by rw [hj]; exact Nat.mod_lt _ (by omega)
      have hjm : ((k : Int) % (L.length : Int)) = (j : Int) := by rw [hj]; omega
      have ej := ecut j hjl
      have hjq : (j : Int) ≤ (qp : Int) := by omega
      have hj0 : (0 : Int) ≤ (j : Int) := by omega
      have hgc := getReply_any W2 W2.heap.size ap qp (L.take j) (by have := hr2.take j; rwa [← List.map_take] at this) (by simp; omega)
      rw [show (L.take j).length = j by simp; omega, ej] at hgc
      have elm : Hid ((L ++ m).length = L.length + m.length) := by unfold Hid; simp
      replace hgc := Hid.mk hgc
      replace emore := Hid.mk emore
      replace elo := Hid.mk elo
      replace hr2 := Hid.mk hr2
      replace ow2 := Hid.mk ow2
      replace k2 := Hid.mk k2
      clear ecut ej hj
      go_wp2_with fail
      refine hgc.out.mono ?_
      clear hgc hjm hjq hj0 hjl
      rintro e W3 ⟨a4, q4, a7, q7, rfl, hq4, hq7, hr4, hr7, k4⟩
      clear hr4 hq4 hq7 hr7
      replace k4 := Hid.mk k4
      dsimp only [ReplyV.cells, noReply]
      obtain ⟨i0, hi, hz0, hz1, hz2⟩ := info_parts info_u8
      replace hi := Hid.mk hi
      replace hz0 := Hid.mk hz0
      replace hz1 := Hid.mk hz1
      replace hz2 := Hid.mk hz2
      go_wp2_with (at_builtin; go_must (refine wpList_app _ rfl (.tmp 98) (.tmp 99) 29 rfl WX.heap.size 5 i0 (.int .u8 0) 1 1 Tryd.underlying29 hi.out hz0.out hz1.out hz2.out rfl (by decide) _ L.length (bys L) rfl ?own am W1.heap.size m.length qm (bys m) rfl ?len ?rd (u8_one m) ?b1 ?b2 ?b3 ?_))
      case own => exact own_kp ow2.out (k4.out.alloc _) (fun _ _ _ _ x => x)
      case len => simp
      case rd => exact ((hrm.out.kp kX.out (fun _ _ _ x => x)).kp k2.out (fun _ _ _ x => x)).kp (k4.out.alloc _) (fun _ _ _ x => x)
      case b1 => unfold maxLen; omega
      case b2 => omega
      case b3 => exact Nat.le_trans k2.out.size (k4.out.alloc _).size
      intro v' w' hown hgrow hat
      have kw : Kp Nn WX w' := ((k2.out.trans k4.out).alloc _).grown hgrow (fun g hg => .inl (own_blk ow2.out hg).1)
      obtain ⟨a5, c5, rfl, hc5, hr5, _⟩ := own_out hown
      rw [← List.map_append] at hr5
      replace hr5 := Hid.mk hr5
      replace kw := Hid.mk kw
      have hgc := getReply_any w' w'.heap.size a5 c5 (L ++ m) hr5.out (by simp; omega)
      rw [elm.out, emore.out] at hgc
      replace hgc := Hid.mk hgc
      clear hown hgrow hat ow2 hr2 k2 k4 hi hz0 hz1 hz2 hLne hL0 emore
      go_wp2_with fail
      refine hgc.out.mono ?_
      clear hgc
      rintro e W4 ⟨a6, q6, a8, q8, rfl, hq6, hq8, hr6, hr8, k6⟩
      clear hr6 hq6 hq8 hr8
      have kY := Hid.mk (k0.out.trans (kX.out.trans (kw.out.trans k6)))
      clear k6
      dsimp only [ReplyV.cells, noReply]
      go_wp2_with fail
      go_ret
      exact ⟨rfl, kY.out.alloc _⟩
    · have hB' : ((putR x).2 == 0) = false := by simpa using hB
      generalize putR x = px at *
      obtain ⟨l, ec⟩ := px
      simp only at hB hB'
      rintro e W2 ⟨ap, qp, rfl, hq2, hr2, k2, ow2⟩
      dsimp only at hq2 hr2 ow2 ⊢
      have kY := Hid.mk (k0.out.trans (kX.out.trans k2))
      clear hq2 hr2 ow2 k2
      go_wp2_with fail
      go_ret
      exact ⟨rfl, kY.out⟩
  | true =>
    have ep : putC c = ([], 1) := by simp [putC, hA]
    rw [ep]
    clear ep hA
    rintro e WX ⟨ap, qp, rfl, hq2, hr2, k2, ow2⟩
    dsimp only at hq2 hr2 ow2 ⊢
    have kX := Hid.mk k2
    clear hq2 hr2 ow2 k2
    go_wp2_with (refine wpList_load_row rfl 32 _ rfl (W.heap.size + 1) rfl 32 rr (0, 0) _ (kX.out.block _ _ hb2.out (fun x => x)) Tryd.underlying32 rfl (by rw [← hrr.out]; exact info_reply) ?_)
    have hpr := putReply_any WX WX.heap.size a2 q2 a3 q3 x hxo ((hrx.out.kp kX.out (fun _ _ _ x => x)).mono kX.out.size) ((hre.out.kp kX.out (fun _ _ _ x => x)).mono kX.out.size) (Nat.le_refl _)
    rw [hrr.out] at hpr
    refine hpr.mono ?_
    clear hpr
    by_cases hB : (putR x).2 = 0
    · obtain ⟨hbig, hmay, ep⟩ := putR_ok hB
      have ecut := getR_cut hxo hbig hmay
      have emore := getR_more hxo hbig hmay (more := m) hm0.out
      have elo := pReply_lo x
      have ehi := pReply_hi hbig hmay
      rw [ep]
      clear ep hB hbig hmay
      generalize pReply x = L at *
      rintro e W2 ⟨ap, qp, rfl, hq2, hr2, k2, ow2⟩
      dsimp only at hq2 hr2 ow2 ⊢
      have hL0 : (0 : Int) < (L.length : Int) := by omega
      have hLne : ¬ L = [] := by rintro rfl; simp at elo
      obtain ⟨j, hj⟩ : ∃ j, j = k % L.length := ⟨_, rfl⟩
      have hjl : j < L.length := by rw [hj]; exact Nat.mod_lt _ (by omega)
      have hjm : ((k : Int) % (L.length : Int)) = (j : Int) := by rw [hj]; omega
      have ej := ecut j hjl
      have hjq : (j : Int) ≤ (qp : Int) := by omega
      have hj0 : (0 : Int) ≤ (j : Int) := by omega
      have hgc := getReply_any W2 W2.heap.size ap qp (L.take j) (by have := hr2.take j; rwa [← List.map_take] at this) (by simp; omega)
      rw [show (L.take j).length = j by simp; omega, ej] at hgc
      have elm : Hid ((L ++ m).length = L.length + m.length) := by unfold Hid; simp
      replace hgc := Hid.mk hgc
      replace emore := Hid.mk emore
      replace elo := Hid.mk elo
      replace hr2 := Hid.mk hr2
      replace ow2 := Hid.mk ow2
      replace k2 := Hid.mk k2
      clear ecut ej hj
      go_wp2_with fail
      refine hgc.out.mono ?_
      clear hgc hjm hjq hj0 hjl
      rintro e W3 ⟨a4, q4, a7, q7, rfl, hq4, hq7, hr4, hr7, k4⟩
      clear hr4 hq4 hq7 hr7
      replace k4 := Hid.mk k4
      dsimp only [ReplyV.cells, noReply]
      obtain ⟨i0, hi, hz0, hz1, hz2⟩ := info_parts info_u8
      replace hi := Hid.mk hi
      replace hz0 := Hid.mk hz0
      replace hz1 := Hid.mk hz1
      replace hz2 := Hid.mk hz2
      go_wp2_with (at_builtin; go_must (refine wpList_app _ rfl (.tmp 98) (.tmp 99) 29 rfl WX.heap.size 5 i0 (.int .u8 0) 1 1 Tryd.underlying29 hi.out hz0.out hz1.out hz2.out rfl (by decide) _ L.length (bys L) rfl ?own am W1.heap.size m.length qm (bys m) rfl ?len ?rd (u8_one m) ?b1 ?b2 ?b3 ?_))
      case own => exact own_kp ow2.out (k4.out.alloc _) (fun _ _ _ _ x => x)
      case len => simp
      case rd => exact ((hrm.out.kp kX.out (fun _ _ _ x => x)).kp k2.out (fun _ _ _ x => x)).kp (k4.out.alloc _) (fun _ _ _ x => x)
      case b1 => unfold maxLen; omega
      case b2 => omega
      case b3 => exact Nat.le_trans k2.out.size (k4.out.alloc _).size
      intro v' w' hown hgrow hat
      have kw : Kp Nn WX w' := ((k2.out.trans k4.out).alloc _).grown hgrow (fun g hg => .inl (own_blk ow2.out hg).1)
      obtain ⟨a5, c5, rfl, hc5, hr5, _⟩ := own_out hown
      rw [← List.map_append] at hr5
      replace hr5 := Hid.mk hr5
      replace kw := Hid.mk kw
      have hgc := getReply_any w' w'.heap.size a5 c5 (L ++ m) hr5.out (by simp; omega)
      rw [elm.out, emore.out] at hgc
      replace hgc := Hid.mk hgc
      clear hown hgrow hat ow2 hr2 k2 k4 hi hz0 hz1 hz2 hLne hL0 emore
      go_wp2_with fail
      refine hgc.out.mono ?_
      clear hgc
      rintro e W4 ⟨a6, q6, a8, q8, rfl, hq6, hq8, hr6, hr8, k6⟩
      clear hr6 hq6 hq8 hr8
      have kY := Hid.mk (k0.out.trans (kX.out.trans (kw.out.trans k6)))
      clear k6
      dsimp only [ReplyV.cells, noReply]
      go_wp2_with fail
      go_ret
      exact ⟨rfl, kY.out.alloc _⟩
    · have hB' : ((putR x).2 == 0) = false := by simpa using hB
      generalize putR x = px at *
      obtain ⟨l, ec⟩ := px
      simp only at hB hB'
      rintro e W2 ⟨ap, qp, rfl, hq2, hr2, k2, ow2⟩
      dsimp only at hq2 hr2 ow2 ⊢
      have kY := Hid.mk (k0.out.trans (kX.out.trans k2))
      clear hq2 hr2 ow2 k2
      go_wp2_with fail
      go_ret
      exact ⟨rfl, kY.out⟩

theorem callCut_any (W : World) (hT : TabC W) (c : CallV) (a : Option Addr) (q : Nat) (x : ReplyV) (a2 : Option Addr) (q2 : Nat) (a3 : Option Addr) (q3 : Nat) (k : Nat) (m : List UInt8) (am : Option Addr) (qm : Nat)
    (hk : k < 65536) (hco : c.ok) (hxo : x.ok) (hrc : Rd W W.heap.size a (bys c.data)) (hrx : Rd W W.heap.size a2 (bys x.data)) (hre : Rd W W.heap.size a3 (eCells x.entries)) (hrm : Rd W W.heap.size am (bys m)) :
    Calls Tryd.prog 4 #[.agg (c.cells a q), .agg (x.cells a2 q2 a3 q3), .int .u16 (k : Int), .slice am m.length qm] W fun r W' => r = .returned (.bool true) ∧ Kp Nn W W' := by
  by_cases h0 : m = []
  · subst h0
    exact callCut_early1 W hT c a q x a2 q2 a3 q3 k am qm
  by_cases h1 : 20 < m.length
  · exact callCut_early2 W hT c a q x a2 q2 a3 q3 k m am qm h0 h1
  by_cases h2 : 30 < x.entries.length
  · exact callCut_early3 W hT c a q x a2 q2 a3 q3 k m am qm h0 (by omega) h2
  exact callCut_main W hT c a q x a2 q2 a3 q3 k m am qm hk h0 (by omega) (by omega) hco hxo hrc hrx hre hrm
end Go.Proofs.YtnfcjfbepaoimaaDoor
