/- Package xdr: a reader's bytes; package slices at bytes. -/
import Derived.Test.YtnfcjfbepaoimaaDoorXdrG
set_option linter.unusedVariables false
set_option linter.unusedSimpArgs false
namespace Go.Proofs.YtnfcjfbepaoimaaDoor
open Go.RowKit

theorem info_u8 : (Tryd.prog.info? 5).map (fun i => (i.zero, i.size, i.bytes)) = some (some (.int .u8 0), 1, 1) := by kernel_rfl

/-- What a row of one's own reads as. -/
theorem own_out {w : World} {base e size : Nat} {v : Value} {n : Nat} {xs : List Value} (h : w.ownsRow base e size v n xs) :
    ∃ a c, v = .slice a n c ∧ n ≤ c ∧ Rd w w.heap.size a xs ∧ (∀ k, v.ownBlock = some k → base ≤ k) := by
  rcases h.2 with ⟨rfl, rfl⟩ | ⟨g, cap, cur, rfl, hb, hg, hn, hm, hs, ht⟩
  · exact ⟨none, 0, rfl, Nat.le_refl _, fun hp => by have := h.1; simp at this; simp [this] at hp, fun k hk => by simp [Value.ownBlock] at hk⟩
  · refine ⟨some ⟨g, 0, none⟩, cap, rfl, hn, fun hp => ⟨g, 0, rfl, lt_of_blk hg, fun j u hu => ?_⟩, fun k hk => by simp [Value.ownBlock] at hk; omega⟩
    rw [cell_blk hg, Nat.zero_add]
    rw [← ht, List.getElem?_take] at hu
    split at hu
    · simpa using hu
    · cases hu

/-- A slice of bytes in memory of its own. -/
def OutB (S : Nat → Obj → Prop) (W : World) (l : List UInt8) : Ending → World → Prop := fun r W' =>
  ∃ a c, r = .returned (.slice a l.length c) ∧ l.length ≤ c ∧ Rd W' W'.heap.size a (bys l) ∧ Kp S W W' ∧ W'.ownsRow W.heap.size 5 1 (.slice a l.length c) l.length (bys l)

theorem eqlB : ∀ (w : World) (a : Option Addr) (n c n' c' : Nat), (binOp .eql 29 (.slice a n c) (.slice none n' c')).run Tryd.prog w = .ok (.bool a.isNone) w := fun w a n c n' c' => Lib.run_eql_slice_nil w _ _ a n c n' c' Tryd.underlying29

theorem cloneB_any (W : World) (N : Nat) (a : Option Addr) (c : Nat) (l : List UInt8) (h : Rd W N a (bys l)) (hl : l.length ≤ 70368744177664) :
    Calls Tryd.prog 54 #[.slice a l.length c] W (OutB Nn W l) := by
  have q22 := eqlB
  cases a with
  | none =>
    have hl0 : l = [] := by
      cases l with
      | nil => rfl
      | cons x l => obtain ⟨b, o, h, _⟩ := h (by simp); cases h
    subst hl0
    have hfin : OutB Nn W [] (.returned (.slice none 0 0)) W := ⟨none, 0, rfl, Nat.le_refl _, Rd.nil _ _ _, Kp.refl _ _, World.ownsRow_nil _ _ _ _⟩
    have H := Hid.mk hfin
    clear hfin
    go_enter Tryd.func54, Tryd.ntmps54
    go_wp2
    go_ret
    exact H.out
  | some ad =>
    go_enter Tryd.func54, Tryd.ntmps54
    go_wp2_with (at_builtin; obtain ⟨i0, hi, hz0, hz1, hz2⟩ := info_parts info_u8; go_must (refine wpList_app _ rfl (.tmp 5) (.tmp 6) 29 rfl W.heap.size 5 i0 (.int .u8 0) 1 1 Tryd.underlying29 hi hz0 hz1 hz2 rfl (by decide) _ 0 [] rfl ?own _ N l.length c (bys l) rfl ?len (h.alloc _) (u8_one l) ?b1 ?b2 ?b3 ?_))
    case own => exact World.ownsRow_made W #[] 0 (Nat.le_refl _) (by simp [maxLen]) rfl
    case len => simp
    case b1 => simp only [maxLen]; omega
    case b2 => omega
    case b3 => simp
    intro v' w' hown hg hat
    obtain ⟨a', c', rfl, hc', hr', _⟩ := own_out hown
    have hfin : Hid (OutB Nn W l (.returned (.slice a' l.length c')) w') :=
      ⟨a', c', rfl, hc', hr', ((Kp.refl _ _).alloc _).grown hg (fun k hk => .inl (by simp [Value.ownBlock] at hk; omega)), by simpa using hown⟩
    clear hown hg hat hr' h
    go_wp2
    go_ret
    exact hfin.out

theorem newReader_any (W : World) (N : Nat) (a : Option Addr) (c : Nat) (l : List UInt8) (h : Rd W N a (bys l)) (hl : l.length ≤ 70368744177664) :
    Calls Tryd.prog 34 #[.slice a l.length c] W fun r W' => ∃ rb N', r = .returned (.pointer (some ⟨rb, 0, none⟩)) ∧ W.heap.size ≤ rb ∧ RD W' rb N' (l, 0) ∧ Kp Nn W W' := by
  go_enter Tryd.func34, Tryd.ntmps34
  go_wp2_with fail
  refine (cloneB_any W N a c l h hl).mono ?_
  rintro e W1 ⟨a', c', rfl, hc', hr', k1, _⟩
  have hfin : Hid (RD (W1.alloc (.cells #[.slice a' l.length c', .int .i64 0] 113)) W1.heap.size W1.heap.size (l, 0) ∧ Kp Nn W (W1.alloc (.cells #[.slice a' l.length c', .int .i64 0] 113)) ∧ W.heap.size ≤ W1.heap.size) :=
    ⟨⟨Nat.le_refl _, by simp; omega, a', c', hc', blk_new _ _, hr'.alloc _⟩, k1.alloc _, k1.size⟩
  clear h hr' k1
  go_wp2_with fail
  go_ret
  exact ⟨_, _, rfl, hfin.out.2.2, hfin.out.1, hfin.out.2.1⟩
end Go.Proofs.YtnfcjfbepaoimaaDoor
