/- Package xdr: the reader: each function's contract. -/
import Derived.Test.YtnfcjfbepaoimaaDoorProg
import Derived.Test.YtnfcjfbepaoimaaDoorBase
import Derived.Test.YtnfcjfbepaoimaaDoorSpec
import Derived.Test.YtnfcjfbepaoimaaDoorLaws
set_option linter.unusedVariables false
set_option linter.unusedSimpArgs false
namespace Go.Proofs.YtnfcjfbepaoimaaDoor
open Go.RowKit

/-- The reader at block rb: what it has left, and its error. -/
def RD (W : World) (rb N : Nat) (s : RS) : Prop :=
  N ≤ rb ∧ s.1.length ≤ 140737488355328 ∧ ∃ a c, s.1.length ≤ c ∧ W.heap[rb]? = some (.cells #[.slice a s.1.length c, .int .i64 s.2] 113 (0, 0)) ∧ Rd W N a (bys s.1)

section
variable {S : Nat → Obj → Prop} {W W1 : World} {rb N : Nat} {s : RS}
theorem RD.kp (h : RD W rb N s) (k : Kp S W W1) (h1 : ∀ o, ¬ S rb o) (hs : ∀ b o, b < N → ¬ S b o) : RD W1 rb N s :=
  let ⟨h0, hl, a, c, hc, hb, hr⟩ := h; ⟨h0, hl, a, c, hc, k.block _ _ hb (h1 _), hr.kp k hs⟩
end

theorem err_any (W : World) (rb N : Nat) (s : RS) (h : RD W rb N s) :
    Calls Tryd.prog 59 #[.pointer (some ⟨rb, 0, none⟩)] W fun r W' => r = .returned (.int .i64 s.2) ∧ W = W' := by
  obtain ⟨hN, hl, a, c, hc, hb, hr⟩ := h
  have c1 := cell_blk hb 1
  simp at c1
  go_enter Tryd.func59, Tryd.ntmps59
  go_wp2
  go_ret
  exact ⟨rfl, rfl⟩

theorem fail_any (W : World) (rb N : Nat) (s : RS) (h : RD W rb N s) (e : Int) :
    Calls Tryd.prog 60 #[.pointer (some ⟨rb, 0, none⟩), .int .i64 e] W fun r W' => r = .returned (.tuple #[]) ∧ RD W' rb N (rFail s e) ∧ Kp (On rb) W W' := by
  obtain ⟨l, q⟩ := s
  obtain ⟨hN, hl, a, c, hc, hb, hr⟩ := h
  have c1 := cell_blk hb 1
  have f1 := frozen_blk hb 1
  simp at c1
  dsimp only at *
  by_cases h0 : q = 0
  · subst h0
    have hb' := blk_set hb 1 (.int .i64 e)
    simp at hb'
    have hk : Kp (On rb) W (W.setCell ⟨rb, 1, none⟩ (.int .i64 e)) := (Kp.refl _ _).setCell (.inr fun _ => rfl) _
    go_enter Tryd.func60, Tryd.ntmps60
    go_wp2
    go_end0
    refine ⟨rfl, ?_, hk⟩
    simp only [rFail, if_true]
    exact ⟨hN, hl, a, c, hc, hb', hr.setCell hN _⟩
  · have hq : (q == 0) = false := by simpa using h0
    go_enter Tryd.func60, Tryd.ntmps60
    go_wp2
    go_end0
    refine ⟨rfl, ?_, Kp.refl _ _⟩
    simp only [rFail, if_neg h0]
    exact ⟨hN, hl, a, c, hc, hb, hr⟩

def TakeP (W : World) (rb N : Nat) (s : RS) (n : Nat) : Ending → World → Prop := fun r W' =>
  ∃ a c, r = .returned (.slice a (rTake s n).1.length c) ∧ (rTake s n).1.length ≤ c ∧ Rd W' N a (bys (rTake s n).1) ∧ RD W' rb N (rTake s n).2 ∧ Kp (On rb) W W'

theorem take_any (W : World) (rb N : Nat) (s : RS) (h : RD W rb N s) (n : Nat) (hn : n ≤ 4294967303) :
    Calls Tryd.prog 61 #[.pointer (some ⟨rb, 0, none⟩), .int .i64 (n : Int)] W (TakeP W rb N s n) := by
  obtain ⟨l, q⟩ := s
  have h' := h
  obtain ⟨hN, hl, a, c, hc, hb, hr⟩ := h'
  dsimp only at hl hc hb hr
  have c0 := cell_blk hb 0
  have c1 := cell_blk hb 1
  have f0 := frozen_blk hb 0
  simp at c0 c1
  have hlm : l.length ≤ 140737488355328 := hl
  by_cases hlt : l.length < n
  · go_enter Tryd.func61, Tryd.ntmps61
    go_wp2_with fail
    refine (fail_any W rb N (l, q) h 10).mono ?_
    rintro e W1 ⟨rfl, h1, k1⟩
    have h1' := h1
    obtain ⟨_, _, a1, c1', _, hb1, hr1⟩ := h1'
    have c1 := cell_blk hb1 1
    have e1 : ((rFail (l, q) 10).2 != 0) = true := by
      simp only [rFail]; split
      · rfl
      · simpa using ‹¬ _›
    have e2 : rTake (l, q) n = ([], rFail (l, q) 10) := by
      simp only [rFail, rTake]
      by_cases hq : q = 0 <;> simp [hq, hlt]
    have hfin : TakeP W rb N (l, q) n (.returned (.slice none 0 0)) W1 := by
      refine ⟨none, 0, ?_⟩
      rw [e2]
      exact ⟨rfl, Nat.zero_le _, Rd.nil _ _ _, h1, k1⟩
    clear h1 k1 e2 hb1 hr1 h hb hr
    generalize (rFail (l, q) 10).2 = q1 at *
    simp at c1
    go_wp2
    go_ret
    exact hfin
  · by_cases hq : q = 0
    · subst hq
      have e2 : rTake (l, 0) n = (l.take n, (l.drop n, 0)) := by simp [rTake, hlt]
      have hs1 : Rd W N a (bys (l.take n)) := by have := hr.take n; rwa [bys, ← List.map_take] at this
      have hs2 := hr.sliced n l.length c 1 (by omega) hc (l.length - n) (by omega)
      have e3 : ((bys l).drop (n * 1)).take (l.length - n) = bys (l.drop n) := by
        rw [Nat.mul_one, List.take_of_length_le (by simp)]; simp [List.map_drop]
      rw [e3, Nat.mul_one] at hs2
      have hfin : ∀ a2 c2, l.length - n ≤ c2 → Rd W N a2 (bys (l.drop n)) → TakeP W rb N (l, 0) n (.returned (.slice a n n)) (W.setCell ⟨rb, 0, none⟩ (.slice a2 (l.length - n) c2)) := by
        intro a2 c2 hc3 h2
        have hb' := blk_set hb 0 (.slice a2 (l.length - n) c2)
        simp at hb'
        refine ⟨a, n, ?_⟩
        rw [e2]
        dsimp only
        have e4 : (l.take n).length = n := by simp; omega
        rw [e4]
        refine ⟨rfl, Nat.le_refl _, hs1.setCell hN _, ⟨hN, by simp; omega, a2, c2, by simp; omega, ?_, h2.setCell hN _⟩, (Kp.refl _ _).setCell (.inr fun _ => rfl) _⟩
        rw [List.length_drop]; exact hb'
      clear hs1 e2 e3 h hr hb
      go_enter Tryd.func61, Tryd.ntmps61
      go_wp2
      · have hcn : c = n := by assumption
        rw [if_pos hcn] at hs2
        go_ret
        exact hfin _ _ (by omega) hs2
      · have hcn : ¬ c = n := by assumption
        rw [if_neg hcn] at hs2
        go_ret
        exact hfin _ _ (by omega) hs2
    · have hq1 : (q != 0) = true := by simpa using hq
      have hfin : TakeP W rb N (l, q) n (.returned (.slice none 0 0)) W := by
        refine ⟨none, 0, ?_⟩
        have e2 : rTake (l, q) n = ([], (l, q)) := by simp [rTake, hq]
        rw [e2]
        exact ⟨rfl, Nat.zero_le _, Rd.nil _ _ _, h, Kp.refl _ _⟩
      clear h hb hr
      go_enter Tryd.func61, Tryd.ntmps61
      go_wp2
      go_ret
      exact hfin
end Go.Proofs.YtnfcjfbepaoimaaDoor
