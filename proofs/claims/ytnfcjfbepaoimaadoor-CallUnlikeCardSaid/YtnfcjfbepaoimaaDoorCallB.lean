/- Package call: small functions; a handle's bytes. -/
import Derived.Test.YtnfcjfbepaoimaaDoorXdrS
import Derived.Test.YtnfcjfbepaoimaaDoorXdrT
import Derived.Test.YtnfcjfbepaoimaaDoorDirP
set_option linter.unusedVariables false
set_option linter.unusedSimpArgs false
namespace Go.Proofs.YtnfcjfbepaoimaaDoor
open Go.RowKit

def knownOp (x : Nat) : Bool := decide (1 ≤ x) && decide (x ≤ 16)
theorem known_any (W : World) (x : Nat) (hx : x < 4294967296) : Calls Tryd.prog 49 #[.int .u32 (x : Int)] W fun r W' => r = .returned (.bool (knownOp x)) ∧ W = W' := by
  by_cases h1 : 1 ≤ x
  · by_cases h2 : x ≤ 16
    · have e : Hid (knownOp x = true) := by simp [Hid, knownOp, h1, h2]
      go_enter Tryd.func49, Tryd.ntmps49
      go_wp2_with fail
      go_ret
      exact ⟨by rw [e.out]; simp [h1, h2] <;> omega, rfl⟩
    · have e : Hid (knownOp x = false) := by simp [Hid, knownOp, h1, h2]
      go_enter Tryd.func49, Tryd.ntmps49
      go_wp2_with fail
      go_ret
      exact ⟨by rw [e.out]; simp [h1, h2] <;> omega, rfl⟩
  · have e : Hid (knownOp x = false) := by simp [Hid, knownOp, h1]
    go_enter Tryd.func49, Tryd.ntmps49
    go_wp2_with fail
    go_ret
    exact ⟨by rw [e.out]; simp [h1] <;> omega, rfl⟩

def okStatus (n : Int) : Bool := n == 0 || (decide (60 ≤ n) && decide (n ≤ 71))
theorem status_any (W : World) (n : Int) : Calls Tryd.prog 19 #[.int .i64 n] W fun r W' => r = .returned (.bool (okStatus n)) ∧ W = W' := by
  by_cases h0 : n = 0
  · subst h0
    go_enter Tryd.func19, Tryd.ntmps19
    go_wp2_with fail
    go_ret
    exact ⟨rfl, rfl⟩
  · by_cases h1 : 60 ≤ n
    · have e : Hid (okStatus n = (n == 0 || decide (n ≤ 71))) := by simp [Hid, okStatus, h1]
      go_enter Tryd.func19, Tryd.ntmps19
      go_wp2_with fail
      go_ret
      rw [e.out]
      exact ⟨rfl, rfl⟩
    · have e : Hid (okStatus n = (n == 0)) := by simp [Hid, okStatus, h1]
      go_enter Tryd.func19, Tryd.ntmps19
      go_wp2_with fail
      go_ret
      rw [e.out]
      exact ⟨rfl, rfl⟩

theorem handle_any {W0 W : World} {wb : Nat} {l : List UInt8} (h : PutS W0 W wb l) (hl : l.length ≤ 4398046511104) (i g : Nat) (hi : i < 4294967296) (hg : g < 4294967296) :
    Calls Tryd.prog 23 #[.pointer (some ⟨wb, 0, none⟩), .agg #[.int .u32 (i : Int), .int .u32 (g : Int)]] W fun r W' => r = .returned (.tuple #[]) ∧ PutS W0 W' wb (l ++ (pU32 i ++ pU32 g)) ∧ Kq wb W W' := by
  have h1 := h.nn ((Kp.refl _ _).alloc (.cells #[.int .u32 (i : Int), .int .u32 (g : Int)] 25))
  have hb := blk_new W (.cells #[.int .u32 (i : Int), .int .u32 (g : Int)] 25)
  have hlt := h.lt.1
  replace h1 := Hid.mk h1
  have q0 := Hid.mk (Kq.ofNn (wb := wb) ((Kp.refl Nn W).alloc (.cells #[.int .u32 (i : Int), .int .u32 (g : Int)] 25)))
  replace hb := Hid.mk hb
  go_enter Tryd.func23, Tryd.ntmps23
  go_wp2_with fail
  refine (sU32 h1.out (by omega) i hi).mono ?_
  rintro e W2 ⟨rfl, h2, q2⟩
  have hb2 := q2.2 _ _ hb.out (by omega) (by simp [Obj.isTy])
  have c1 := cell_blk hb2 1
  simp at c1
  replace h2 := Hid.mk h2
  replace q2 := Hid.mk q2
  clear hb2
  go_wp2_with fail
  refine (sU32 h2.out (by simp [pU32_length]; omega) g hg).mono ?_
  rintro e W3 ⟨rfl, h3, q3⟩
  replace h3 := Hid.mk h3
  replace q3 := Hid.mk ((q0.out.trans q2.out).trans q3)
  go_wp2_with fail
  go_end0
  exact ⟨rfl, by have := h3.out; rwa [List.append_assoc] at this, q3.out⟩

def rHdl (s : RS) : (Nat × Nat) × RS := (((rU32 s).1, (rU32 (rU32 s).2).1), (rU32 (rU32 s).2).2)
theorem got_any {W0 W : World} {rb : Nat} {s : RS} (h : GetS W0 W rb s) :
    Calls Tryd.prog 36 #[.pointer (some ⟨rb, 0, none⟩)] W fun r W' => r = .returned (.agg #[.int .u32 ((rHdl s).1.1 : Int), .int .u32 ((rHdl s).1.2 : Int)]) ∧ GetS W0 W' rb (rHdl s).2 ∧ Kp (On rb) W W' := by
  obtain ⟨x1, s1, e1⟩ : ∃ x1 s1, rU32 s = (x1, s1) := ⟨_, _, rfl⟩
  obtain ⟨x2, s2, e2⟩ : ∃ x2 s2, rU32 s1 = (x2, s2) := ⟨_, _, rfl⟩
  have eg : rHdl s = ((x1, x2), s2) := by simp [rHdl, e1, e2]
  replace eg := Hid.mk eg
  replace e1 := Hid.mk e1
  replace e2 := Hid.mk e2
  have hlt := h.lt
  have H := GB.start (h.alloc (.cells #[.int .u32 0, .int .u32 0] 25)) #[.int .u32 0, .int .u32 0] 25
  have esz : (W.alloc (.cells #[.int .u32 0, .int .u32 0] 25)).heap.size = W.heap.size + 1 := by simp
  rw [esz] at H
  have hb0 := blk_new W (.cells #[.int .u32 0, .int .u32 0] 25)
  replace hb0 := Hid.mk hb0
  replace H := Hid.mk H
  clear esz
  go_enter Tryd.func36, Tryd.ntmps36
  go_wp2_with fail
  refine (gU32 H.out.1).mono ?_
  rintro e W2 ⟨rfl, hs2, k2⟩
  rw [e1.out] at hs2 ⊢
  dsimp only at hs2 ⊢
  replace H := H.out.call hs2 k2
  have c0 := H.cell 0
  simp at c0
  have f0 := H.frozen 0
  replace H := Hid.mk (H.set 0 (.int .u32 (x1 : Int)))
  clear hs2 k2
  go_wp2_with fail
  clear c0 f0
  refine (gU32 H.out.1).mono ?_
  rintro e W2 ⟨rfl, hs2, k2⟩
  rw [e2.out] at hs2 ⊢
  dsimp only at hs2 ⊢
  replace H := H.out.call hs2 k2
  have c0 := H.cell 0
  have c1 := H.cell 1
  simp at c0 c1
  have f1 := H.frozen 1
  replace H := H.set 1 (.int .u32 (x2 : Int))
  have hb2 := H.2.2.2.block _ _ hb0.out (by simp; omega)
  have d0 := cell_blk hb2 0
  have d1 := cell_blk hb2 1
  simp at d0 d1
  have g0 := frozen_blk hb2 0
  have g1 := frozen_blk hb2 1
  go_wp2_with fail
  have hfin := setAll_whole (vs := [.int .u32 (x1 : Int), .int .u32 (x2 : Int)]) hb2 rfl
  have kfin := setAll_kp (b := W.heap.size) [.int .u32 (x1 : Int), .int .u32 (x2 : Int)] (W2.setCell ⟨W.heap.size + 1, 1, none⟩ (.int .u32 (x2 : Int))) 0
  have hs9 := H.1.on kfin (fun b o x => by have : b = W.heap.size := x; omega)
  have k9 : Kp (On rb) W (setAll W.heap.size (W2.setCell ⟨W.heap.size + 1, 1, none⟩ (.int .u32 (x2 : Int))) 0 [.int .u32 (x1 : Int), .int .u32 (x2 : Int)]) :=
    ((((Kp.refl (fun k _ => k = rb ∨ W.heap.size ≤ k) W).alloc _).trans (H.2.2.2.mono (fun k o x => by rcases x with x | x; exact .inl x; exact .inr (by omega)))).trans (kfin.mono (fun k o x => .inr (by have : k = W.heap.size := x; omega)))).weak (fun k o hk x => by rcases x with x | x; exact x; omega)
  simp only [setAll] at hfin kfin hs9 k9
  have r0 := cell_blk hfin 0
  have r1 := cell_blk hfin 1
  refine bodyPost_ret (v := .agg #[.int .u32 (x1 : Int), .int .u32 (x2 : Int)]) ?_ rfl ?_
  · simp [results, Tryd.f36, go_sem, r0, r1]
  · rw [eg.out]
    exact ⟨rfl, hs9, k9⟩
end Go.Proofs.YtnfcjfbepaoimaaDoor
