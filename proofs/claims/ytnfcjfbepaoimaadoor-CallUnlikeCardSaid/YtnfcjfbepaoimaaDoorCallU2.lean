/- The law CallUnlike: its walk, where nothing is too long. -/
import Derived.Test.YtnfcjfbepaoimaaDoorEqC
set_option linter.unusedVariables false
set_option linter.unusedSimpArgs false
namespace Go.Proofs.YtnfcjfbepaoimaaDoor
open Go.RowKit

theorem cells_one14 (c : CallV) (a : Option Addr) (q : Nat) : ∀ v ∈ (c.cells a q).toList, v.oneCell' = true := by
  intro v hv
  simp at hv
  rcases hv with rfl | rfl | rfl | rfl | rfl | rfl | rfl | rfl | rfl | rfl | rfl | rfl | rfl | rfl <;> rfl

set_option maxRecDepth 100000 in
set_option maxHeartbeats 8000000 in
theorem callUnlike_diff (W : World) (hT : TabC W) (c : CallV) (a : Option Addr) (q : Nat) (d : CallV) (a2 : Option Addr) (q2 : Nat)
    (hs1 : c.name.size ≤ 140737488351232) (hs2 : c.toName.size ≤ 140737488351232) (hs3 : d.name.size ≤ 140737488351232) (hs4 : d.toName.size ≤ 140737488351232)
    (h1 : c.data.length ≤ 1100) (h2 : d.data.length ≤ 1100) (h3 : c.name.size + c.toName.size + d.name.size + d.toName.size ≤ 300) (hco : c.ok) (hdo : d.ok) (hrc : Rd W W.heap.size a (bys c.data)) (hrd : Rd W W.heap.size a2 (bys d.data)) :
    Calls Tryd.prog 5 #[.agg (c.cells a q), .agg (d.cells a2 q2), .bool false] W fun r W' => r = .returned (.bool true) ∧ Kp Nn W W' := by
  have hb1 := blk_alloc (blk_new W (.cells (c.cells a q) 50)) (.cells (d.cells a2 q2) 50)
  have hb2 := blk_new (W.alloc (.cells (c.cells a q) 50)) (.cells (d.cells a2 q2) 50)
  have k0 : Kp Nn W ((W.alloc (.cells (c.cells a q) 50)).alloc (.cells (d.cells a2 q2) 50)) := ((Kp.refl _ _).alloc _).alloc _
  have hT0 := hT.kp k0
  have esz : (W.alloc (.cells (c.cells a q) 50)).heap.size = W.heap.size + 1 := by simp
  rw [esz] at hb2
  have u5 : (c.cells a q)[5]? = some (.string c.name) := rfl
  have u8 : (c.cells a q)[8]? = some (.string c.toName) := rfl
  have u13 : (c.cells a q)[13]? = some (.slice a c.data.length q) := rfl
  have v5 : (d.cells a2 q2)[5]? = some (.string d.name) := rfl
  have v8 : (d.cells a2 q2)[8]? = some (.string d.toName) := rfl
  have v13 : (d.cells a2 q2)[13]? = some (.slice a2 d.data.length q2) := rfl
  clear esz
  generalize hcc : c.cells a q = cc at *
  generalize hrr : d.cells a2 q2 = rr at *
  replace hcc := Hid.mk hcc
  replace hrr := Hid.mk hrr
  replace hb1 := Hid.mk hb1
  replace hb2 := Hid.mk hb2
  replace k0 := Hid.mk k0
  replace hT0 := Hid.mk hT0
  replace u5 := Hid.mk u5
  replace u8 := Hid.mk u8
  replace u13 := Hid.mk u13
  replace v5 := Hid.mk v5
  replace v8 := Hid.mk v8
  replace v13 := Hid.mk v13
  clear hT
  have g1 : (c.data.length : Int) ≤ 1100 := by omega
  have g2 : (d.data.length : Int) ≤ 1100 := by omega
  have g3 : (c.name.size : Int) + (c.toName.size : Int) + (d.name.size : Int) + (d.toName.size : Int) ≤ 300 := by omega
  replace hrc := Hid.mk (hrc.kp k0.out (fun _ _ _ x => x))
  replace hrd := Hid.mk (hrd.kp k0.out (fun _ _ _ x => x))
  have hs0 := Hid.mk k0.out.size
  go_enter Tryd.func5, Tryd.ntmps5
  go_wp2_with fail
  generalize (W.alloc (.cells cc 50)).alloc (.cells rr 50) = W0 at *
  refine (awake_any W0 hT0.out).mono ?_
  rintro e W1 ⟨rfl, k1⟩
  have c5 := cell_blk (k1.block _ _ hb1.out (fun x => x)) 5
  have c8 := cell_blk (k1.block _ _ hb1.out (fun x => x)) 8
  have c13 := cell_blk (k1.block _ _ hb1.out (fun x => x)) 13
  have e5 := cell_blk (k1.block _ _ hb2.out (fun x => x)) 5
  have e8 := cell_blk (k1.block _ _ hb2.out (fun x => x)) 8
  have e13 := cell_blk (k1.block _ _ hb2.out (fun x => x)) 13
  rw [u5.out] at c5
  rw [u8.out] at c8
  rw [u13.out] at c13
  rw [v5.out] at e5
  rw [v8.out] at e8
  rw [v13.out] at e13
  replace hb1 := Hid.mk (k1.block _ _ hb1.out (fun x => x))
  replace hb2 := Hid.mk (k1.block _ _ hb2.out (fun x => x))
  replace hrc := Hid.mk ((hrc.out.kp k1 (fun _ _ _ x => x)).mono (Nat.le_trans hs0.out k1.size))
  replace hrd := Hid.mk ((hrd.out.kp k1 (fun _ _ _ x => x)).mono (Nat.le_trans hs0.out k1.size))
  replace k0 := Hid.mk (k0.out.trans k1)
  clear k1 hs0
  go_wp2_with (refine wpList_load_row rfl 50 _ rfl W.heap.size rfl 50 cc (0, 0) _ hb1.out Tryd.underlying50 rfl (by rw [← hcc.out]; exact info_call) ?_)
  have hpc := putCall_any W1 W1.heap.size a q c hco hrc.out (Nat.le_refl _)
  rw [hcc.out] at hpc
  refine hpc.mono ?_
  clear hpc
  cases hA : c.big with
  | true =>
    have ep : putC c = ([], 1) := by simp [putC, hA]
    rw [ep]
    clear ep hA
    rintro e W2 ⟨ap, qp, rfl, hq2, hr2, k2, ow2⟩
    dsimp only at hq2 hr2 ow2 ⊢
    clear hq2 hr2 ow2
    go_wp2_with (refine wpList_load_row rfl 50 _ rfl (W.heap.size + 1) rfl 50 rr (0, 0) _ (k2.block _ _ hb2.out (fun x => x)) Tryd.underlying50 rfl (by rw [← hrr.out]; exact info_call) ?_)
    have hpc := putCall_any W2 W2.heap.size a2 q2 d hdo ((hrd.out.kp k2 (fun _ _ _ x => x)).mono k2.size) (Nat.le_refl _)
    rw [hrr.out] at hpc
    refine hpc.mono ?_
    clear hpc
    generalize putC d = pd at *
    obtain ⟨l, ec⟩ := pd
    rintro e W3 ⟨ap, qp, rfl, hq2, hr2, k3, ow2⟩
    dsimp only at hq2 hr2 ow2 ⊢
    clear hq2 hr2 ow2
    have k9 := Hid.mk (k0.out.trans (k2.trans k3))
    clear k2 k3
    go_wp2_with fail
    go_ret
    exact ⟨rfl, k9.out⟩
  | false =>
    have ep : putC c = (pCall c, 0) := by simp [putC, hA]
    rw [ep]
    rintro e W2 ⟨ap, qp, rfl, hq2, hr2, k2, ow2⟩
    dsimp only at hq2 hr2 ow2 ⊢
    clear ow2 ep
    replace hr2 := Hid.mk hr2
    have hA := Hid.mk hA
    go_wp2_with (refine wpList_load_row rfl 50 _ rfl (W.heap.size + 1) rfl 50 rr (0, 0) _ (k2.block _ _ hb2.out (fun x => x)) Tryd.underlying50 rfl (by rw [← hrr.out]; exact info_call) ?_)
    have hpc := putCall_any W2 W2.heap.size a2 q2 d hdo ((hrd.out.kp k2 (fun _ _ _ x => x)).mono k2.size) (Nat.le_refl _)
    rw [hrr.out] at hpc
    refine hpc.mono ?_
    clear hpc
    cases hB : d.big with
    | true =>
      have ep : putC d = ([], 1) := by simp [putC, hB]
      rw [ep]
      rintro e W3 ⟨ap2, qp2, rfl, hq3, hr3, k3, ow3⟩
      dsimp only at hq3 hr3 ow3 ⊢
      clear hq3 hr3 ow3 ep hB
      have k9 := Hid.mk (k0.out.trans (k2.trans k3))
      clear k2 k3
      go_wp2_with fail
      go_ret
      exact ⟨rfl, k9.out⟩
    | false =>
      have ep : putC d = (pCall d, 0) := by simp [putC, hB]
      rw [ep]
      rintro e W3 ⟨ap2, qp2, rfl, hq3, hr3, k3, ow3⟩
      dsimp only at hq3 hr3 ow3 ⊢
      clear ow3 ep
      replace hr3 := Hid.mk hr3
      have hB := Hid.mk hB
      have hu : Hid (USt W.heap.size (W.heap.size + 1) c a q d a2 q2 ap (pCall c) ap2 (pCall d) W3) := by
        refine Hid.mk ⟨?_, ?_, ?_, ?_, ?_, ?_⟩
        · rw [hcc.out]; exact k3.block _ _ (k2.block _ _ hb1.out (fun x => x)) (fun x => x)
        · rw [hrr.out]; exact k3.block _ _ (k2.block _ _ hb2.out (fun x => x)) (fun x => x)
        · exact (hrc.out.kp (k2.trans k3) (fun _ _ _ x => x)).mono (k2.trans k3).size
        · exact (hrd.out.kp (k2.trans k3) (fun _ _ _ x => x)).mono (k2.trans k3).size
        · exact (hr2.out.kp k3 (fun _ _ _ x => x)).mono k3.size
        · exact hr3.out
      replace k0 := Hid.mk (k0.out.trans (k2.trans k3))
      go_wp2_with fail
      have hcA : Hid (∀ w, USt W.heap.size (W.heap.size + 1) c a q d a2 q2 ap (pCall c) ap2 (pCall d) w → Calls Tryd.prog 17 #[.agg (c.cells a q)] w fun r W' => r = .returned (.agg c.ccells) ∧ Kp Nn w W') := Hid.mk fun w h => callOf_any w _ a q c h.r1
      have hcB : Hid (∀ w, USt W.heap.size (W.heap.size + 1) c a q d a2 q2 ap (pCall c) ap2 (pCall d) w → Calls Tryd.prog 17 #[.agg (d.cells a2 q2)] w fun r W' => r = .returned (.agg d.ccells) ∧ Kp Nn w W') := Hid.mk fun w h => callOf_any w _ a2 q2 d h.r2
      obtain ⟨s1, es1⟩ : ∃ s1 : ByteArray, s1 = ⟨(pCall c).toArray⟩ := ⟨_, rfl⟩
      obtain ⟨s2, es2⟩ : ∃ s2 : ByteArray, s2 = ⟨(pCall d).toArray⟩ := ⟨_, rfl⟩
      have hS : Hid (∀ w, USt W.heap.size (W.heap.size + 1) c a q d a2 q2 ap (pCall c) ap2 (pCall d) w → w.cell? ⟨W.heap.size, 0, none⟩ = some (.int .u32 (c.client : Int)) ∧ w.cell? ⟨W.heap.size, 1, none⟩ = some (.int .u32 (c.xid : Int)) ∧ w.cell? ⟨W.heap.size, 2, none⟩ = some (.int .u32 (c.op : Int)) ∧ w.cell? ⟨W.heap.size, 3, none⟩ = some (.int .u32 (c.atI : Int)) ∧ w.cell? ⟨W.heap.size, 4, none⟩ = some (.int .u32 (c.atG : Int)) ∧ w.cell? ⟨W.heap.size, 5, none⟩ = some (.string c.name) ∧ w.cell? ⟨W.heap.size, 6, none⟩ = some (.int .u32 (c.toI : Int)) ∧ w.cell? ⟨W.heap.size, 7, none⟩ = some (.int .u32 (c.toG : Int)) ∧ w.cell? ⟨W.heap.size, 8, none⟩ = some (.string c.toName) ∧ w.cell? ⟨W.heap.size, 9, none⟩ = some (.int .u64 (c.offset : Int)) ∧ w.cell? ⟨W.heap.size, 10, none⟩ = some (.int .u64 (c.verf : Int)) ∧ w.cell? ⟨W.heap.size, 11, none⟩ = some (.int .u32 (c.count : Int)) ∧ w.cell? ⟨W.heap.size, 12, none⟩ = some (.int .u32 (c.mode : Int)) ∧ w.cell? ⟨W.heap.size, 13, none⟩ = some (.slice a c.data.length q) ∧ w.cell? ⟨W.heap.size + 1, 0, none⟩ = some (.int .u32 (d.client : Int)) ∧ w.cell? ⟨W.heap.size + 1, 1, none⟩ = some (.int .u32 (d.xid : Int)) ∧ w.cell? ⟨W.heap.size + 1, 2, none⟩ = some (.int .u32 (d.op : Int)) ∧ w.cell? ⟨W.heap.size + 1, 3, none⟩ = some (.int .u32 (d.atI : Int)) ∧ w.cell? ⟨W.heap.size + 1, 4, none⟩ = some (.int .u32 (d.atG : Int)) ∧ w.cell? ⟨W.heap.size + 1, 5, none⟩ = some (.string d.name) ∧ w.cell? ⟨W.heap.size + 1, 6, none⟩ = some (.int .u32 (d.toI : Int)) ∧ w.cell? ⟨W.heap.size + 1, 7, none⟩ = some (.int .u32 (d.toG : Int)) ∧ w.cell? ⟨W.heap.size + 1, 8, none⟩ = some (.string d.toName) ∧ w.cell? ⟨W.heap.size + 1, 9, none⟩ = some (.int .u64 (d.offset : Int)) ∧ w.cell? ⟨W.heap.size + 1, 10, none⟩ = some (.int .u64 (d.verf : Int)) ∧ w.cell? ⟨W.heap.size + 1, 11, none⟩ = some (.int .u32 (d.count : Int)) ∧ w.cell? ⟨W.heap.size + 1, 12, none⟩ = some (.int .u32 (d.mode : Int)) ∧ w.cell? ⟨W.heap.size + 1, 13, none⟩ = some (.slice a2 d.data.length q2) ∧ (convert 29 9 (.slice ap (pCall c).length qp)).run Tryd.prog w = .ok (.string s1) w ∧ (convert 29 9 (.slice ap2 (pCall d).length qp2)).run Tryd.prog w = .ok (.string s2) w) := by
        refine Hid.mk fun w h => ⟨cell_blk h.h1 0, cell_blk h.h1 1, cell_blk h.h1 2, cell_blk h.h1 3, cell_blk h.h1 4, cell_blk h.h1 5, cell_blk h.h1 6, cell_blk h.h1 7, cell_blk h.h1 8, cell_blk h.h1 9, cell_blk h.h1 10, cell_blk h.h1 11, cell_blk h.h1 12, cell_blk h.h1 13, cell_blk h.h2 0, cell_blk h.h2 1, cell_blk h.h2 2, cell_blk h.h2 3, cell_blk h.h2 4, cell_blk h.h2 5, cell_blk h.h2 6, cell_blk h.h2 7, cell_blk h.h2 8, cell_blk h.h2 9, cell_blk h.h2 10, cell_blk h.h2 11, cell_blk h.h2 12, cell_blk h.h2 13, ?_, ?_⟩
        · rw [es1]; exact run_b2s w _ _ _ _ _ _ _ Tryd.underlying29 Tryd.underlying5 Tryd.underlying9 h.p1
        · rw [es2]; exact run_b2s w _ _ _ _ _ _ _ Tryd.underlying29 Tryd.underlying5 Tryd.underlying9 h.p2
      have hu' := hu.out
      have hS' := hS.out _ hu'
      clear hcc hrr
      have hse : (s1.toList == s2.toList) = eqCv c d := by rw [es1, es2]; exact eqCall_val hco hdo hA.out hB.out
      clear es1 es2
      have heqC : ∀ w, (binOp .eql 57 (.agg c.ccells) (.agg d.ccells)).run Tryd.prog w = .ok (.bool (eqCv c d)) w := fun w => eqC_run w c d
      dsimp only [CallV.ccells] at heqC
      generalize eqCv c d = bb at *
      have hmod : ((pCall c).length : Int) % 4 = 0 := by have := pCall_mod c; omega
      cases bb
      all_goals
        go_region_held3 (fun w' => USt W.heap.size (W.heap.size + 1) c a q d a2 q2 ap (pCall c) ap2 (pCall d) w' ∧ w'.cell? ⟨W.heap.size, 0, none⟩ = some (.int .u32 (c.client : Int)) ∧ w'.cell? ⟨W.heap.size, 1, none⟩ = some (.int .u32 (c.xid : Int)) ∧ w'.cell? ⟨W.heap.size, 2, none⟩ = some (.int .u32 (c.op : Int)) ∧ w'.cell? ⟨W.heap.size, 3, none⟩ = some (.int .u32 (c.atI : Int)) ∧ w'.cell? ⟨W.heap.size, 4, none⟩ = some (.int .u32 (c.atG : Int)) ∧ w'.cell? ⟨W.heap.size, 5, none⟩ = some (.string c.name) ∧ w'.cell? ⟨W.heap.size, 6, none⟩ = some (.int .u32 (c.toI : Int)) ∧ w'.cell? ⟨W.heap.size, 7, none⟩ = some (.int .u32 (c.toG : Int)) ∧ w'.cell? ⟨W.heap.size, 8, none⟩ = some (.string c.toName) ∧ w'.cell? ⟨W.heap.size, 9, none⟩ = some (.int .u64 (c.offset : Int)) ∧ w'.cell? ⟨W.heap.size, 10, none⟩ = some (.int .u64 (c.verf : Int)) ∧ w'.cell? ⟨W.heap.size, 11, none⟩ = some (.int .u32 (c.count : Int)) ∧ w'.cell? ⟨W.heap.size, 12, none⟩ = some (.int .u32 (c.mode : Int)) ∧ w'.cell? ⟨W.heap.size, 13, none⟩ = some (.slice a c.data.length q) ∧ w'.cell? ⟨W.heap.size + 1, 0, none⟩ = some (.int .u32 (d.client : Int)) ∧ w'.cell? ⟨W.heap.size + 1, 1, none⟩ = some (.int .u32 (d.xid : Int)) ∧ w'.cell? ⟨W.heap.size + 1, 2, none⟩ = some (.int .u32 (d.op : Int)) ∧ w'.cell? ⟨W.heap.size + 1, 3, none⟩ = some (.int .u32 (d.atI : Int)) ∧ w'.cell? ⟨W.heap.size + 1, 4, none⟩ = some (.int .u32 (d.atG : Int)) ∧ w'.cell? ⟨W.heap.size + 1, 5, none⟩ = some (.string d.name) ∧ w'.cell? ⟨W.heap.size + 1, 6, none⟩ = some (.int .u32 (d.toI : Int)) ∧ w'.cell? ⟨W.heap.size + 1, 7, none⟩ = some (.int .u32 (d.toG : Int)) ∧ w'.cell? ⟨W.heap.size + 1, 8, none⟩ = some (.string d.toName) ∧ w'.cell? ⟨W.heap.size + 1, 9, none⟩ = some (.int .u64 (d.offset : Int)) ∧ w'.cell? ⟨W.heap.size + 1, 10, none⟩ = some (.int .u64 (d.verf : Int)) ∧ w'.cell? ⟨W.heap.size + 1, 11, none⟩ = some (.int .u32 (d.count : Int)) ∧ w'.cell? ⟨W.heap.size + 1, 12, none⟩ = some (.int .u32 (d.mode : Int)) ∧ w'.cell? ⟨W.heap.size + 1, 13, none⟩ = some (.slice a2 d.data.length q2) ∧ (convert 29 9 (.slice ap (pCall c).length qp)).run Tryd.prog w' = .ok (.string s1) w' ∧ (convert 29 9 (.slice ap2 (pCall d).length qp2)).run Tryd.prog w' = .ok (.string s2) w')
          (first
            | (go_split_ands; exact ⟨USt.kp ‹USt _ _ _ _ _ _ _ _ _ _ _ _ _› ‹Kp Nn _ _›, hS.out _ (USt.kp ‹USt _ _ _ _ _ _ _ _ _ _ _ _ _› ‹Kp Nn _ _›)⟩)
            | (go_split_ands; exact ⟨USt.kp hu' ((Kp.refl Nn _).drew), hS.out _ (USt.kp hu' ((Kp.refl Nn _).drew))⟩)
            | (go_split_ands; exact ⟨USt.kp hu' (((Kp.refl Nn _).drew).trans (by assumption)), hS.out _ (USt.kp hu' (((Kp.refl Nn _).drew).trans (by assumption)))⟩)
            | (go_split_ands; exact ⟨USt.kp hu' ((((Kp.refl Nn _).drew).trans (by assumption)).trans (by assumption)), hS.out _ (USt.kp hu' ((((Kp.refl Nn _).drew).trans (by assumption)).trans (by assumption)))⟩)
            | exact ⟨hu', hS.out _ hu'⟩)
          ((go_at_call 17; first
            | ((with_reducible refine (hcA.out _ ?_).mono ?_); (first | assumption | exact USt.kp (by assumption) ((Kp.refl Nn _).drew) | exact USt.kp (by assumption) (((Kp.refl Nn _).drew).drew) | exact USt.kp hu' (((Kp.refl Nn _).drew).trans (by assumption)) | exact USt.kp hu' ((Kp.refl Nn _).drewN _)); rintro e wA ⟨rfl, hkA⟩)
            | ((with_reducible refine (hcB.out _ ?_).mono ?_); (first | assumption | exact USt.kp (by assumption) ((Kp.refl Nn _).drew) | exact USt.kp (by assumption) (((Kp.refl Nn _).drew).drew) | exact USt.kp hu' (((Kp.refl Nn _).drew).trans (by assumption)) | exact USt.kp hu' ((Kp.refl Nn _).drewN _)); rintro e wA ⟨rfl, hkA⟩)))
      all_goals
        go_wp2_with fail
        go_ret
        have ht : (((pCall c).length : Int).tmod 4 == 0) = true := by
          rw [beq_iff_eq, Int.tmod_eq_emod_of_nonneg (Int.natCast_nonneg _)]
          exact hmod
        exact ⟨congrArg (fun b => Ending.returned (.bool b)) ht, k0.out.trans (Kp.trans (Kp.trans ((Kp.refl Nn W3).drew) (by assumption)) hkA)⟩
end Go.Proofs.YtnfcjfbepaoimaaDoor
