/- Package dir: the entries of bytes. -/
import Derived.Test.YtnfcjfbepaoimaaDoorDirM
import Derived.Test.YtnfcjfbepaoimaaDoorXdrT
import Derived.Deep.LoopGhost
set_option linter.unusedVariables false
set_option linter.unusedSimpArgs false
namespace Go.Proofs.YtnfcjfbepaoimaaDoor
open Go.RowKit

/-- An entry is read. -/
def gEnt (s : RS) : Ent × RS :=
  ({ cookie := (rU64 s).1, ino := (rU32 (rU64 s).2).1, gen := (rU32 (rU32 (rU64 s).2).2).1, name := ⟨(rOpaque (rU32 (rU32 (rU64 s).2).2).2 24).1.toArray⟩ }, (rOpaque (rU32 (rU32 (rU64 s).2).2).2 24).2)
/-- Entries are read to the end. -/
def getL : Nat → List Ent → RS → List Ent × Int
  | 0, acc, _ => (acc, 0)
  | n + 1, acc, s => if s.1.length = 0 then (acc, 0) else if (gEnt s).2.2 ≠ 0 then ([], (gEnt s).2.2) else getL n (acc ++ [(gEnt s).1]) (gEnt s).2
def getD (b : List UInt8) : List Ent × Int :=
  if (getL (b.length + 1) [] (b, 0)).2 ≠ 0 then ([], (getL (b.length + 1) [] (b, 0)).2) else if mayL (getL (b.length + 1) [] (b, 0)).1 then ((getL (b.length + 1) [] (b, 0)).1, 0) else ([], 11)

theorem rTake_ok_len {s : RS} {n : Nat} (h : (rTake s n).2.2 = 0) : s.2 = 0 ∧ n ≤ s.1.length ∧ (rTake s n).2.1.length = s.1.length - n := by
  unfold rTake at h ⊢
  split at h
  · rename_i h1; exact absurd h h1
  · rename_i h1
    split at h
    · simp at h
    · rename_i h2
      rw [if_neg h1, if_neg h2]
      exact ⟨by simpa using h1, by omega, by simp⟩
theorem rOpaque_ok {s : RS} {m : Nat} (h : (rOpaque s m).2.2 = 0) : (rU32 s).2.2 = 0 ∧ (rOpaque s m).2.1.length ≤ (rU32 s).2.1.length := by
  unfold rOpaque at h ⊢
  split at h
  · rename_i h1; exact absurd h h1
  · rename_i h1
    split at h
    · simp at h
    · rename_i h2
      split at h
      · rename_i h3; exact absurd h h3
      · rename_i h3
        split at h
        · simp at h
        · rename_i h4
          rw [if_neg h1, if_neg h2, if_neg h3, if_neg h4]
          exact ⟨by simpa using h1, rTake_rest_le _ _⟩
theorem gEnt_ok {s : RS} (h : (gEnt s).2.2 = 0) : s.2 = 0 ∧ (gEnt s).2.1.length + 20 ≤ s.1.length := by
  have h1 := rOpaque_ok h
  have h2 := rTake_ok_len (s := (rU32 (rU32 (rU64 s).2).2).2) (n := 4) h1.1
  have h3 := rTake_ok_len (s := (rU32 (rU64 s).2).2) (n := 4) h2.1
  have h4 := rTake_ok_len (s := (rU64 s).2) (n := 4) h3.1
  have h5 := rTake_ok_len (s := s) (n := 8) h4.1
  have e2 : (rU32 (rU32 (rU32 (rU64 s).2).2).2).2.1.length = (rU32 (rU32 (rU64 s).2).2).2.1.length - 4 := h2.2.2
  have e3 : (rU32 (rU32 (rU64 s).2).2).2.1.length = (rU32 (rU64 s).2).2.1.length - 4 := h3.2.2
  have e4 : (rU32 (rU64 s).2).2.1.length = (rU64 s).2.1.length - 4 := h4.2.2
  have e5 : (rU64 s).2.1.length = s.1.length - 8 := h5.2.2
  have g2 := h2.2.1
  have g3 := h3.2.1
  have g4 := h4.2.1
  have g5 := h5.2.1
  have g1 := h1.2
  refine ⟨h5.1, ?_⟩
  show (rOpaque (rU32 (rU32 (rU64 s).2).2).2 24).2.1.length + 20 ≤ _
  omega
theorem getL_fuel : ∀ (n m : Nat) (acc : List Ent) (s : RS), s.1.length < n → s.1.length < m → getL n acc s = getL m acc s
  | 0, _, _, _, h, _ => by omega
  | _, 0, _, _, _, h => by omega
  | n + 1, m + 1, acc, s, h1, h2 => by
    unfold getL
    by_cases h0 : s.1.length = 0
    · rw [if_pos h0, if_pos h0]
    · rw [if_neg h0, if_neg h0]
      by_cases h3 : (gEnt s).2.2 ≠ 0
      · rw [if_pos h3, if_pos h3]
      · rw [if_neg h3, if_neg h3]
        have := (gEnt_ok (s := s) (by simpa using h3)).2
        exact getL_fuel n m _ _ (by omega) (by omega)
/-- From here on: what has come, what is left. -/
def getF (acc : List Ent) (s : RS) : List Ent × Int := getL (s.1.length + 1) acc s
theorem getF_nil {acc : List Ent} {s : RS} (h : s.1.length = 0) : getF acc s = (acc, 0) := by simp [getF, getL, h]
theorem getF_bad {acc : List Ent} {s : RS} (h : ¬ s.1.length = 0) (h2 : (gEnt s).2.2 ≠ 0) : getF acc s = ([], (gEnt s).2.2) := by unfold getF getL; rw [if_neg h, if_pos h2]
theorem getF_step {acc : List Ent} {s : RS} (h : ¬ s.1.length = 0) (h2 : (gEnt s).2.2 = 0) : getF acc s = getF (acc ++ [(gEnt s).1]) (gEnt s).2 := by
  unfold getF
  rw [getL, if_neg h, if_neg (by simpa using h2)]
  have := (gEnt_ok h2).2
  exact getL_fuel _ _ _ _ (by omega) (by omega)
theorem getD_eq (b : List UInt8) : getD b = if (getF [] (b, 0)).2 ≠ 0 then ([], (getF [] (b, 0)).2) else if mayL (getF [] (b, 0)).1 then ((getF [] (b, 0)).1, 0) else ([], 11) := rfl

/-- Entries in memory of one's own, and an error. -/
def OutEE (S : Nat → Obj → Prop) (W : World) (x : List Ent × Int) : Ending → World → Prop := fun r W' =>
  ∃ a c, r = .returned (.tuple #[.slice a x.1.length c, .int .i64 x.2]) ∧ x.1.length ≤ c ∧ Rd W' W'.heap.size a (eCells x.1) ∧ Kp S W W' ∧ (∀ k o, a = some ⟨k, o, none⟩ → W.heap.size ≤ k)

set_option maxRecDepth 100000 in
set_option maxHeartbeats 2000000 in
theorem dget_any (W : World) (N : Nat) (a : Option Addr) (c : Nat) (l : List UInt8) (h : Rd W N a (bys l)) (hl : l.length ≤ 274877906944) :
    Calls Tryd.prog 41 #[.slice a l.length c] W (OutEE Nn W (getD l)) := by
  obtain ⟨i0, hi, hz0, hz1, hz2⟩ := info_parts info_ent
  have hi := Hid.mk hi
  have hz0 := Hid.mk hz0
  have hz1 := Hid.mk hz1
  have hz2 := Hid.mk hz2
  go_enter Tryd.func41, Tryd.ntmps41
  go_wp2_with fail
  refine (gNew W N a c l h (by omega)).mono ?_
  rintro e W1 ⟨rb, rfl, hs, k1⟩
  have hs := Hid.mk hs
  clear h k1
  go_wp2_with fail
  go_loopg [5] l.length (fun g v wr => ∃ acc s, Hid (g = s.1.length) ∧ Hid (getF acc s = getF [] (l, 0)) ∧ Hid (wr.ownsRow (rb + 1) 78 4 v acc.length (eCells acc)) ∧ acc.length + g ≤ l.length ∧ Hid (GetS W wr rb s))
  case atStart => exact ⟨[], (l, 0), rfl, rfl, World.ownsRow_nil _ _ _ _, by simp, hs.out⟩
  case round =>
    obtain ⟨acc, s, hg, hf, hown, hacc, hs⟩ := hrel
    by_cases h0 : 0 < s.1.length
    · obtain ⟨x1, s1, e1⟩ : ∃ x1 s1, rU64 s = (x1, s1) := ⟨_, _, rfl⟩
      obtain ⟨x2, s2, e2⟩ : ∃ x2 s2, rU32 s1 = (x2, s2) := ⟨_, _, rfl⟩
      obtain ⟨x3, s3, e3⟩ : ∃ x3 s3, rU32 s2 = (x3, s3) := ⟨_, _, rfl⟩
      obtain ⟨x4, s4, e4⟩ : ∃ x4 s4, rOpaque s3 24 = (x4, s4) := ⟨_, _, rfl⟩
      have eg : gEnt s = ({ cookie := x1, ino := x2, gen := x3, name := ⟨x4.toArray⟩ }, s4) := by simp [gEnt, e1, e2, e3, e4]
      replace eg := Hid.mk eg
      replace e1 := Hid.mk e1
      replace e2 := Hid.mk e2
      replace e3 := Hid.mk e3
      replace e4 := Hid.mk e4
      have H := GB.start hs.out #[.int .u64 0, .int .u32 0, .int .u32 0, .string ⟨#[]⟩] 78
      replace H := Hid.mk H
      go_wp2_with fail
      refine (gLeft hs.out).mono ?_
      rintro e W2 ⟨rfl, rfl⟩
      go_wp2_with fail
      refine (gU64 H.out.1).mono ?_
      rintro e W2 ⟨rfl, hs2, k2⟩
      rw [e1.out] at hs2 ⊢
      dsimp only at hs2 ⊢
      replace H := H.out.call hs2 k2
      have c0 := H.cell 0
      simp at c0
      have f0 := H.frozen 0
      replace H := Hid.mk (H.set 0 (.int .u64 (x1 : Int)))
      clear hs2 k2
      go_wp2_with fail
      clear c0 f0
      refine (gU32 H.out.1).mono ?_
      rintro e W2 ⟨rfl, hs2, k2⟩
      rw [e2.out] at hs2 ⊢
      dsimp only at hs2 ⊢
      replace H := H.out.call hs2 k2
      have c1 := H.cell 1
      simp at c1
      have f1 := H.frozen 1
      replace H := Hid.mk (H.set 1 (.int .u32 (x2 : Int)))
      clear hs2 k2
      go_wp2_with fail
      clear c1 f1
      refine (gU32 H.out.1).mono ?_
      rintro e W2 ⟨rfl, hs2, k2⟩
      rw [e3.out] at hs2 ⊢
      dsimp only at hs2 ⊢
      replace H := H.out.call hs2 k2
      have c2 := H.cell 2
      simp at c2
      have f2 := H.frozen 2
      replace H := Hid.mk (H.set 2 (.int .u32 (x3 : Int)))
      clear hs2 k2
      go_wp2_with fail
      clear c2 f2
      refine (gOpaque H.out.1 24 (by omega) (by omega)).mono ?_
      rw [show (24 : Int).toNat = 24 from rfl, e4.out]
      dsimp only
      rintro e W2 ⟨⟨a4, q4, rfl, hq4, r4⟩, hs2, k2⟩
      have hcv := run_b2s (P := Tryd.prog) W2 29 9 5 W2.heap.size q4 a4 x4 Tryd.underlying29 Tryd.underlying5 Tryd.underlying9 r4
      replace H := H.out.call hs2 k2
      have c3 := H.cell 3
      simp at c3
      have f3 := H.frozen 3
      replace H := Hid.mk (H.set 3 (.string ⟨x4.toArray⟩))
      clear hs2 k2 r4
      go_wp2_with fail
      clear c3 f3
      refine (gErr H.out.1).mono ?_
      rintro e W3 ⟨rfl, rfl⟩
      by_cases h4 : s4.2 = 0
      · have hst := getF_step (acc := acc) (by omega : ¬ s.1.length = 0) (by rw [eg.out]; exact h4)
        have hlen := (gEnt_ok (s := s) (by rw [eg.out]; exact h4)).2
        rw [eg.out] at hst hlen
        dsimp only at hst hlen
        have hgl : s.1.length ≤ gk := by rw [hg.out]; exact Nat.le_refl _
        replace hst := Hid.mk hst
        have ho := own_kp hown.out H.out.2.2.2 (fun g cur hgb hgg => by
          have hlt := lt_of_blk hgg
          have := (own_blk hown.out hgb).1
          omega)
        replace ho := Hid.mk ho
        have hsz := H.out.1.2.2.size
        have hltr := H.out.1.lt
        have c0 := H.out.cell 0
        have c1 := H.out.cell 1
        have c2 := H.out.cell 2
        have c3 := H.out.cell 3
        simp at c0 c1 c2 c3
        generalize W2.setCell ⟨wr.heap.size, 3, none⟩ (.string ⟨x4.toArray⟩) = W4 at *
        have hr4 : Rd (W4.alloc (.cells #[.int .u64 (x1 : Int), .int .u32 (x2 : Int), .int .u32 (x3 : Int), .string ⟨x4.toArray⟩] 78)) (W4.heap.size + 1) (some ⟨W4.heap.size, 0, none⟩) (Ent.cells { cookie := x1, ino := x2, gen := x3, name := ⟨x4.toArray⟩ }) := fun _ =>
          ⟨W4.heap.size, 0, rfl, by omega, fun j u hu => by rw [Nat.zero_add, cell_blk (blk_new _ _)]; simpa [Ent.cells] using hu⟩
        replace hr4 := Hid.mk hr4
        have h4' := Hid.mk h4
        rw [h4]
        clear h4
        go_wp2_with (at_builtin; go_must (refine wpList_app _ rfl (.tmp 33) (.tmp 35) 30 rfl (rb + 1) 78 i0 _ 4 32 Tryd.underlying30 hi.out hz0.out hz1.out hz2.out rfl (by decide) u5 acc.length (eCells acc) rfl (ho.out.alloc _) _ (W4.heap.size + 1) 1 1 (Ent.cells { cookie := x1, ino := x2, gen := x3, name := ⟨x4.toArray⟩ }) rfl ?len hr4.out ?one ?b1 ?b2 ?b3 ?_))
        case len => rfl
        case one => intro u hu; simp [Ent.cells] at hu; rcases hu with rfl | rfl | rfl | rfl <;> rfl
        case b1 => simp only [maxLen]; omega
        case b2 => omega
        case b3 => simp; omega
        intro v' w' hown' hgr hat
        have kg : ∀ k, u5.ownBlock = some k → rb < k := fun k hk => (own_blk ho.out hk).1
        have hs' : GetS W w' rb s4 := (H.out.1.alloc _).on (Kp.of_grown hgr) (fun b o e => kg b e.symm)
        have hown2 := own_snoc hown'
        obtain ⟨a5, q5, rfl, _, _, _⟩ := own_out hown'
        replace hs' := Hid.mk hs'
        replace hown2 := Hid.mk hown2
        clear hown' hgr hat hr4 c0 c1 c2 c3
        go_wp2_with fail
        go_roundg s4.1.length
        case measure => omega
        case rel => exact ⟨_, s4, rfl, by unfold Hid; rw [← hst.out]; exact hf.out, by simpa using hown2, by simp; omega, hs'⟩
      · have hq : (s4.2 != 0) = true := by simpa using h4
        have hb := getF_bad (acc := acc) (by omega : ¬ s.1.length = 0) (by rw [eg.out]; exact h4)
        rw [eg.out, hf.out] at hb
        have hfin : Hid (getD l = ([], s4.2)) := by unfold Hid; rw [getD_eq, hb]; simp [h4]
        clear hb h4
        have k9 := Hid.mk H.out.1.2.2
        go_wp2_with fail
        go_ret2
        rw [hfin.out]
        exact ⟨none, 0, rfl, Nat.le_refl _, Rd.nil _ _ _, k9.out, fun _ _ e => by cases e⟩
    · have hb := getF_nil (acc := acc) (s := s) (by omega)
      rw [hf.out] at hb
      replace hb := Hid.mk hb
      obtain ⟨a5, q5, rfl, hq5, r5, fr5⟩ := own_out hown.out
      have fr : ∀ k o, a5 = some ⟨k, o, none⟩ → W.heap.size ≤ k := by
        rintro k o rfl
        have h1 := fr5 k rfl
        have h2 := hs.out.2.1
        omega
      replace fr := Hid.mk fr
      have k5 := hs.out.2.2
      have hfin : Hid (getD l = if mayL acc then (acc, 0) else ([], 11)) := by unfold Hid; rw [getD_eq, hb.out]; simp
      replace r5 := Hid.mk r5
      replace k5 := Hid.mk k5
      go_wp2_with fail
      refine (gLeft hs.out).mono ?_
      rintro e W2 ⟨rfl, rfl⟩
      go_wp2_with fail
      refine (may_any wr _ _ _ acc r5.out (Nat.le_refl _) (by omega)).mono ?_
      rintro e W2 ⟨rfl, k6⟩
      have r6 := Hid.mk ((r5.out.kp k6 (fun _ _ _ x => x)).mono k6.size)
      replace k6 := Hid.mk (k5.out.trans k6)
      cases hm : mayL acc with
      | true =>
        replace hm := Hid.mk hm
        go_wp2_with fail
        go_ret2
        rw [hfin.out, if_pos hm.out]
        exact ⟨_, _, rfl, hq5, r6.out, k6.out, fr.out⟩
      | false =>
        replace hm := Hid.mk hm
        go_wp2_with fail
        go_ret2
        rw [hfin.out, hm.out]
        exact ⟨none, 0, rfl, Nat.le_refl _, Rd.nil _ _ _, k6.out, fun _ _ e => by cases e⟩
end Go.Proofs.YtnfcjfbepaoimaaDoor
