/- The law CallStates: its walk. -/
import Derived.Test.YtnfcjfbepaoimaaDoorCallO
import Derived.Test.YtnfcjfbepaoimaaDoorCodecC
set_option linter.unusedVariables false
set_option linter.unusedSimpArgs false
namespace Go.Proofs.YtnfcjfbepaoimaaDoor
open Go.RowKit

def rSt (x : Int) : ReplyV := { client := 0, xid := 4, status := x, atI := 0, atG := 0, kind := 0, mode := 0, links := 0, size := 0, change := 0, data := [], entries := [], eof := false, verf := 0, free := 0 }
theorem rSt_ok (x : Int) : (rSt x).ok := by simp [ReplyV.ok, rSt]
theorem rSt_bad0 : getR ((pReply (rSt 0)).set 11 59) = (noReply, 11) := by kernel_rfl
theorem rSt_len0 : (pReply (rSt 0)).length = 68 := by kernel_rfl
theorem rSt_bad60 : getR ((pReply (rSt 60)).set 11 59) = (noReply, 11) := by kernel_rfl
theorem rSt_len60 : (pReply (rSt 60)).length = 68 := by kernel_rfl
theorem rSt_bad61 : getR ((pReply (rSt 61)).set 11 59) = (noReply, 11) := by kernel_rfl
theorem rSt_len61 : (pReply (rSt 61)).length = 68 := by kernel_rfl
theorem rSt_bad62 : getR ((pReply (rSt 62)).set 11 59) = (noReply, 11) := by kernel_rfl
theorem rSt_len62 : (pReply (rSt 62)).length = 68 := by kernel_rfl
theorem rSt_bad63 : getR ((pReply (rSt 63)).set 11 59) = (noReply, 11) := by kernel_rfl
theorem rSt_len63 : (pReply (rSt 63)).length = 68 := by kernel_rfl
theorem rSt_bad64 : getR ((pReply (rSt 64)).set 11 59) = (noReply, 11) := by kernel_rfl
theorem rSt_len64 : (pReply (rSt 64)).length = 68 := by kernel_rfl
theorem rSt_bad65 : getR ((pReply (rSt 65)).set 11 59) = (noReply, 11) := by kernel_rfl
theorem rSt_len65 : (pReply (rSt 65)).length = 68 := by kernel_rfl
theorem rSt_bad66 : getR ((pReply (rSt 66)).set 11 59) = (noReply, 11) := by kernel_rfl
theorem rSt_len66 : (pReply (rSt 66)).length = 68 := by kernel_rfl
theorem rSt_bad67 : getR ((pReply (rSt 67)).set 11 59) = (noReply, 11) := by kernel_rfl
theorem rSt_len67 : (pReply (rSt 67)).length = 68 := by kernel_rfl
theorem rSt_bad68 : getR ((pReply (rSt 68)).set 11 59) = (noReply, 11) := by kernel_rfl
theorem rSt_len68 : (pReply (rSt 68)).length = 68 := by kernel_rfl
theorem rSt_bad69 : getR ((pReply (rSt 69)).set 11 59) = (noReply, 11) := by kernel_rfl
theorem rSt_len69 : (pReply (rSt 69)).length = 68 := by kernel_rfl
theorem rSt_bad70 : getR ((pReply (rSt 70)).set 11 59) = (noReply, 11) := by kernel_rfl
theorem rSt_len70 : (pReply (rSt 70)).length = 68 := by kernel_rfl
theorem rSt_bad71 : getR ((pReply (rSt 71)).set 11 59) = (noReply, 11) := by kernel_rfl
theorem rSt_len71 : (pReply (rSt 71)).length = 68 := by kernel_rfl
theorem okStatus_cases {x : Int} (h : okStatus x = true) : x = 0 ∨ x = 60 ∨ x = 61 ∨ x = 62 ∨ x = 63 ∨ x = 64 ∨ x = 65 ∨ x = 66 ∨ x = 67 ∨ x = 68 ∨ x = 69 ∨ x = 70 ∨ x = 71 := by
  simp [okStatus] at h
  omega
theorem rSt_bad {x : Int} (h : okStatus x = true) : getR ((pReply (rSt x)).set 11 59) = (noReply, 11) := by
  rcases okStatus_cases h with rfl | rfl | rfl | rfl | rfl | rfl | rfl | rfl | rfl | rfl | rfl | rfl | rfl
  all_goals first
    | exact rSt_bad0
    | exact rSt_bad60
    | exact rSt_bad61
    | exact rSt_bad62
    | exact rSt_bad63
    | exact rSt_bad64
    | exact rSt_bad65
    | exact rSt_bad66
    | exact rSt_bad67
    | exact rSt_bad68
    | exact rSt_bad69
    | exact rSt_bad70
    | exact rSt_bad71
theorem rSt_len {x : Int} (h : okStatus x = true) : (pReply (rSt x)).length = 68 := by
  rcases okStatus_cases h with rfl | rfl | rfl | rfl | rfl | rfl | rfl | rfl | rfl | rfl | rfl | rfl | rfl
  all_goals first
    | exact rSt_len0
    | exact rSt_len60
    | exact rSt_len61
    | exact rSt_len62
    | exact rSt_len63
    | exact rSt_len64
    | exact rSt_len65
    | exact rSt_len66
    | exact rSt_len67
    | exact rSt_len68
    | exact rSt_len69
    | exact rSt_len70
    | exact rSt_len71
theorem rSt_put {x : Int} (h : okStatus x = true) : putR (rSt x) = (pReply (rSt x), 0) := by
  have hm : mayL [] = true := rfl
  simp only [rSt] at *
  simp [putR, ReplyV.big, putD, h, hm]
theorem rSt_get {x : Int} (h : okStatus x = true) : getR (pReply (rSt x)) = (rSt x, 0) :=
  getR_put (rSt_ok x) (by simp [ReplyV.big, rSt, h]) rfl

set_option maxRecDepth 100000 in
set_option maxHeartbeats 4000000 in
theorem callStates_bad (W : World) (hT0 : TabC W) (x : Int) (hx : okStatus x = false) : Calls Tryd.prog 7 #[.int .i64 x] W fun r W' => r = .returned (.bool true) ∧ Kp Nn W W' := by
  have ep : putR (rSt x) = ([], 1) := by simp [putR, ReplyV.big, rSt, hx]
  have h0 : (x == 0) = false := by
    simp [okStatus] at hx
    simp; omega
  have hc : x < 60 ∨ 71 < x := by
    simp [okStatus] at hx
    omega
  replace ep := Hid.mk ep
  replace hx := Hid.mk hx
  rcases hc with hc | hc
  · have h60 : ¬ 60 ≤ x := by omega
    go_enter Tryd.func7, Tryd.ntmps7
    go_wp2_with fail
    refine (awake_any W hT0).mono ?_
    rintro e W1 ⟨rfl, k1⟩
    clear hT0
    go_wp2_with fail
    refine (putReply_any W1 0 none 0 none 0 (rSt x) (rSt_ok x) (Rd.nil _ _ _) (Rd.nil _ _ _) (Nat.zero_le _)).mono ?_
    rw [ep.out]
    rintro e W2 ⟨a2, q2, rfl, _, _, k2, _⟩
    replace k2 := Hid.mk (k1.trans k2)
    clear k1
    go_wp2_with fail
    go_ret
    exact ⟨rfl, k2.out⟩
  · have h60 : 60 ≤ x := by omega
    have h71 : ¬ x ≤ 71 := by omega
    have h71' : decide (x ≤ 71) = false := by simp; omega
    go_enter Tryd.func7, Tryd.ntmps7
    go_wp2_with fail
    refine (awake_any W hT0).mono ?_
    rintro e W1 ⟨rfl, k1⟩
    clear hT0
    go_wp2_with fail
    refine (putReply_any W1 0 none 0 none 0 (rSt x) (rSt_ok x) (Rd.nil _ _ _) (Rd.nil _ _ _) (Nat.zero_le _)).mono ?_
    rw [ep.out]
    rintro e W2 ⟨a2, q2, rfl, _, _, k2, _⟩
    replace k2 := Hid.mk (k1.trans k2)
    clear k1
    go_wp2_with fail
    go_ret
    exact ⟨rfl, k2.out⟩

set_option maxRecDepth 100000 in
set_option maxHeartbeats 4000000 in
theorem callStates_zero (W : World) (hT0 : TabC W) : Calls Tryd.prog 7 #[.int .i64 0] W fun r W' => r = .returned (.bool true) ∧ Kp Nn W W' := by
  have hx : okStatus 0 = true := rfl
  have ep := rSt_put hx
  have elen := rSt_len hx
  have eget := rSt_get hx
  have ebad := rSt_bad hx
  clear hx
  replace ep := Hid.mk ep
  replace elen := Hid.mk elen
  replace eget := Hid.mk eget
  replace ebad := Hid.mk ebad
  go_enter Tryd.func7, Tryd.ntmps7
  go_wp2_with fail
  refine (awake_any W hT0).mono ?_
  rintro e W1 ⟨rfl, k1⟩
  clear hT0
  go_wp2_with fail
  refine (putReply_any W1 0 none 0 none 0 (rSt 0) (rSt_ok 0) (Rd.nil _ _ _) (Rd.nil _ _ _) (Nat.zero_le _)).mono ?_
  rw [ep.out]
  generalize pReply (rSt 0) = L at *
  rintro e W2 ⟨a2, q2, rfl, hq2, hr2, k2, ow2⟩
  dsimp only at hq2 hr2 ow2 ⊢
  have hl68 : L.length ≤ 68 := by rw [elen.out]; omega
  have hl11 : 11 < L.length := by rw [elen.out]; omega
  obtain ⟨g, rfl, hgb, hgs, hgf, hset⟩ := own_set ow2 rfl 11 (by omega) 59
  have hs01 := k1.size
  replace k2 := Hid.mk (k1.trans k2)
  replace hr2 := Hid.mk hr2
  replace ow2 := Hid.mk ow2
  clear k1 hset hgs hgf
  go_wp2_with fail
  refine (getReply_any W2 _ _ q2 L hr2.out (by omega)).mono ?_
  rw [eget.out]
  rintro e W3 ⟨a3, q3, a4, q4, rfl, hq3, hq4, hr3, hr4, k3⟩
  have ow3 := own_kp ow2.out k3 (fun _ _ _ _ x => x)
  obtain ⟨g', eg', hgb', hgs, hgf, hset⟩ := own_set ow3 rfl 11 (by omega) 59
  cases eg'
  obtain ⟨v11, hgs⟩ := Option.isSome_iff_exists.1 hgs
  have hlt3 : g < W3.heap.size := World.block_lt_of_cell? W3 _ hgs
  have hset : Rd (W3.setCell ⟨g, 11, none⟩ (.int .u8 59)) (W3.setCell ⟨g, 11, none⟩ (.int .u8 59)).heap.size (some ⟨g, 0, none⟩) (bys (L.set 11 59)) := hset
  have k9 : Kp Nn W ((W3.setCell ⟨g, 11, none⟩ (.int .u8 59)).alloc (.cells ((rSt 0).cells a3 q3 a4 q4) 32)) := ((k2.out.trans k3).setCell (a := ⟨g, 11, none⟩) (.inl (show W.heap.size ≤ g by omega)) _).alloc _
  replace hset := hset.alloc (.cells ((rSt 0).cells a3 q3 a4 q4) 32)
  have hbx := blk_new (W3.setCell ⟨g, 11, none⟩ (.int .u8 59)) (.cells ((rSt 0).cells a3 q3 a4 q4) 32)
  have e3 : (W3.setCell ⟨g, 11, none⟩ (.int .u8 59)).heap.size = W3.heap.size := by simp [World.setCell]
  rw [e3] at hbx
  have hcx := cell_blk hbx 2
  have hcy := cell_blk hbx 1
  dsimp only [ReplyV.cells, rSt] at hcx hcy hset k9 ⊢
  simp only [List.getElem?_toArray, List.getElem?_cons_succ, List.getElem?_cons_zero] at hcx hcy
  replace hset := Hid.mk hset
  replace hcx := Hid.mk hcx
  replace hcy := Hid.mk hcy
  replace k9 := Hid.mk k9
  clear hr3 hq3 ow3 k3 ow2 hr2 hbx e3 hr4 hq4
  go_wp2_with fail
  generalize (W3.setCell ⟨g, 11, none⟩ (.int .u8 59)).alloc _ = W5 at *
  have hgc := getReply_any W5 _ _ q2 (L.set 11 59) hset.out (by simp; omega)
  rw [List.length_set, ebad.out] at hgc
  refine hgc.mono ?_
  rintro e W6 ⟨a6, q6, a7, q7, rfl, hq6, hq7, hr6, hr7, k6⟩
  have hcx6 := k6.cell hcx.out (fun _ x => x)
  have hcy6 := k6.cell hcy.out (fun _ x => x)
  have hlt6 := World.block_lt_of_cell? W6 _ hcx6
  replace k9 := Hid.mk (k9.out.trans k6)
  clear hgc hr6 hr7 k6
  dsimp only [ReplyV.cells, noReply]
  go_wp2_with fail
  go_ret
  exact ⟨by simp, k9.out.alloc _⟩

set_option maxRecDepth 100000 in
set_option maxHeartbeats 4000000 in
theorem callStates_good (W : World) (hT0 : TabC W) (x : Int) (h60 : 60 ≤ x) (h71 : x ≤ 71) : Calls Tryd.prog 7 #[.int .i64 x] W fun r W' => r = .returned (.bool true) ∧ Kp Nn W W' := by
  have hx : okStatus x = true := by simp [okStatus, h60, h71]
  have ep := rSt_put hx
  have elen := rSt_len hx
  have eget := rSt_get hx
  have ebad := rSt_bad hx
  have h0 : (x == 0) = false := by simp; omega
  have h71' : decide (x ≤ 71) = true := by simp; omega
  replace hx := Hid.mk hx
  replace ep := Hid.mk ep
  replace elen := Hid.mk elen
  replace eget := Hid.mk eget
  replace ebad := Hid.mk ebad
  go_enter Tryd.func7, Tryd.ntmps7
  go_wp2_with fail
  refine (awake_any W hT0).mono ?_
  rintro e W1 ⟨rfl, k1⟩
  clear hT0
  go_wp2_with fail
  refine (putReply_any W1 0 none 0 none 0 (rSt x) (rSt_ok x) (Rd.nil _ _ _) (Rd.nil _ _ _) (Nat.zero_le _)).mono ?_
  rw [ep.out]
  generalize pReply (rSt x) = L at *
  rintro e W2 ⟨a2, q2, rfl, hq2, hr2, k2, ow2⟩
  dsimp only at hq2 hr2 ow2 ⊢
  have hl68 : L.length ≤ 68 := by rw [elen.out]; omega
  have hl11 : 11 < L.length := by rw [elen.out]; omega
  obtain ⟨g, rfl, hgb, hgs, hgf, hset⟩ := own_set ow2 rfl 11 (by omega) 59
  have hs01 := k1.size
  replace k2 := Hid.mk (k1.trans k2)
  replace hr2 := Hid.mk hr2
  replace ow2 := Hid.mk ow2
  clear k1 hset hgs hgf
  go_wp2_with fail
  refine (getReply_any W2 _ _ q2 L hr2.out (by omega)).mono ?_
  rw [eget.out]
  rintro e W3 ⟨a3, q3, a4, q4, rfl, hq3, hq4, hr3, hr4, k3⟩
  have ow3 := own_kp ow2.out k3 (fun _ _ _ _ x => x)
  obtain ⟨g', eg', hgb', hgs, hgf, hset⟩ := own_set ow3 rfl 11 (by omega) 59
  cases eg'
  obtain ⟨v11, hgs⟩ := Option.isSome_iff_exists.1 hgs
  have hlt3 : g < W3.heap.size := World.block_lt_of_cell? W3 _ hgs
  have hset : Rd (W3.setCell ⟨g, 11, none⟩ (.int .u8 59)) (W3.setCell ⟨g, 11, none⟩ (.int .u8 59)).heap.size (some ⟨g, 0, none⟩) (bys (L.set 11 59)) := hset
  have k9 : Kp Nn W ((W3.setCell ⟨g, 11, none⟩ (.int .u8 59)).alloc (.cells ((rSt x).cells a3 q3 a4 q4) 32)) := ((k2.out.trans k3).setCell (a := ⟨g, 11, none⟩) (.inl (show W.heap.size ≤ g by omega)) _).alloc _
  replace hset := hset.alloc (.cells ((rSt x).cells a3 q3 a4 q4) 32)
  have hbx := blk_new (W3.setCell ⟨g, 11, none⟩ (.int .u8 59)) (.cells ((rSt x).cells a3 q3 a4 q4) 32)
  have e3 : (W3.setCell ⟨g, 11, none⟩ (.int .u8 59)).heap.size = W3.heap.size := by simp [World.setCell]
  rw [e3] at hbx
  have hcx := cell_blk hbx 2
  have hcy := cell_blk hbx 1
  dsimp only [ReplyV.cells, rSt] at hcx hcy hset k9 ⊢
  simp only [List.getElem?_toArray, List.getElem?_cons_succ, List.getElem?_cons_zero] at hcx hcy
  replace hset := Hid.mk hset
  replace hcx := Hid.mk hcx
  replace hcy := Hid.mk hcy
  replace k9 := Hid.mk k9
  clear hr3 hq3 ow3 k3 ow2 hr2 hbx e3 hr4 hq4
  go_wp2_with fail
  generalize (W3.setCell ⟨g, 11, none⟩ (.int .u8 59)).alloc _ = W5 at *
  have hgc := getReply_any W5 _ _ q2 (L.set 11 59) hset.out (by simp; omega)
  rw [List.length_set, ebad.out] at hgc
  refine hgc.mono ?_
  rintro e W6 ⟨a6, q6, a7, q7, rfl, hq6, hq7, hr6, hr7, k6⟩
  have hcx6 := k6.cell hcx.out (fun _ x => x)
  have hcy6 := k6.cell hcy.out (fun _ x => x)
  have hlt6 := World.block_lt_of_cell? W6 _ hcx6
  replace k9 := Hid.mk (k9.out.trans k6)
  clear hgc hr6 hr7 k6
  dsimp only [ReplyV.cells, noReply]
  go_wp2_with fail
  go_ret
  exact ⟨by simp, k9.out.alloc _⟩

theorem callStates_any (W : World) (hT : TabC W) (x : Int) : Calls Tryd.prog 7 #[.int .i64 x] W fun r W' => r = .returned (.bool true) ∧ Kp Nn W W' := by
  cases h : okStatus x with
  | true =>
    have hc : x = 0 ∨ 60 ≤ x ∧ x ≤ 71 := by
      simp [okStatus] at h
      omega
    rcases hc with rfl | ⟨h1, h2⟩
    · exact callStates_zero W hT
    · exact callStates_good W hT x h1 h2
  | false => exact callStates_bad W hT x h
end Go.Proofs.YtnfcjfbepaoimaaDoor
