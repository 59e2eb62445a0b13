/- Package xdr: the reader's numbers. -/
import Derived.Test.YtnfcjfbepaoimaaDoorXdrR
set_option linter.unusedVariables false
set_option linter.unusedSimpArgs false
namespace Go.Proofs.YtnfcjfbepaoimaaDoor
open Go.RowKit

theorem Hid.mk {p : Prop} (h : p) : Hid p := h

def NumP (W : World) (rb N : Nat) (k : IntKind) (x : Nat × RS) : Ending → World → Prop := fun r W' =>
  r = .returned (.int k (x.1 : Int)) ∧ RD W' rb N x.2 ∧ Kp (On rb) W W'

theorem be_take_succ (l : List UInt8) (k : Nat) (h : k < l.length) : be (l.take (k + 1)) = be (l.take k) * 256 + l[k].toNat := by
  rw [List.take_succ_eq_append_getElem h, be_append]

theorem wraps_u32 (n : Int) (h₀ : 0 ≤ n) (h₁ : n < 2 ^ 32) : IntKind.u32.wrap n = n := by rw [IntKind.wrap_u32]; omega
theorem wraps_u64 (n : Int) (h₀ : 0 ≤ n) (h₁ : n < 2 ^ 64) : IntKind.u64.wrap n = n := by
  simp only [IntKind.wrap, IntKind.bits, IntKind.signed]; simp; omega
theorem or32 (X c : Nat) (hX : X < 16777216) (hc : c < 256) : bits .or .u32 ((X : Int) * 256 % 4294967296) ((c : Int) % 4294967296) = ((X * 256 + c : Nat) : Int) := by
  have e1 : (X : Int) * 256 % 4294967296 = (X : Int) * 256 := by omega
  have e2 : (c : Int) % 4294967296 = c := by omega
  rw [e1, e2, bits_join .u32 32 (by decide) wraps_u32 8 _ _ (by omega) (by omega) (by omega) (by omega) (by omega) (by omega)]
  omega
theorem or64 (X c : Nat) (hX : X < 72057594037927936) (hc : c < 256) : bits .or .u64 (IntKind.u64.wrap ((X : Int) * 256)) (IntKind.u64.wrap (c : Int)) = ((X * 256 + c : Nat) : Int) := by
  rw [wraps_u64 _ (by omega) (by omega), wraps_u64 _ (by omega) (by omega), bits_join .u64 64 (by decide) wraps_u64 8 _ _ (by omega) (by omega) (by omega) (by omega) (by omega) (by omega)]
  omega
theorem be_take_lt (l : List UInt8) (k j : Nat) (h : k ≤ j) : be (l.take k) < 256 ^ j :=
  Nat.lt_of_lt_of_le (be_lt _) (Nat.pow_le_pow_right (by decide) (Nat.le_trans (List.length_take_le _ _) h))

theorem get32_any (W : World) (rb N : Nat) (s : RS) (h : RD W rb N s) :
    Calls Tryd.prog 57 #[.pointer (some ⟨rb, 0, none⟩), .int .i64 4] W (NumP W rb N .u32 (rU32 s)) := by
  go_enter Tryd.func57, Tryd.ntmps57
  go_wp2_with fail
  refine (take_any W rb N s h 4 (by omega)).mono ?_
  rintro e W1 ⟨a, c, rfl, hc, hr, h1, k1⟩
  have hfin : ∀ x : Nat, x = be (rTake s 4).1 → NumP W rb N .u32 (rU32 s) (.returned (.int .u32 (x : Int))) W1 := by
    intro x hx; subst hx; exact ⟨rfl, h1, k1⟩
  have h4 := rTake_len s 4
  generalize (rTake s 4).1 = l at *
  have hfin' := Hid.mk hfin
  clear hfin
  clear h1 k1 h
  go_wp2_with fail
  go_loop [5, 16] (fun x i => ∃ k : Nat, k ≤ l.length ∧ i = .int .i64 k ∧ x = .int .u32 (be (l.take k) : Nat)) (fun _ i => l.length - (intOf i).toNat)
  case atStart => exact ⟨0, Nat.zero_le _, rfl, rfl⟩
  case round =>
    obtain ⟨k, hk, rfl, rfl⟩ := hrel
    by_cases hlt : k < l.length
    · have hs : Hid (be (l.take (k + 1)) = be (l.take k) * 256 + l[k].toNat) := be_take_succ l k hlt
      obtain ⟨b, o, rfl, hb, hcell⟩ := hr.at k (bt8 l[k]) (by simp [List.getElem?_eq_getElem hlt])
      simp only [bt8] at hcell
      go_wp2_with fail
      go_round
      case rel =>
        have hb3 := be_take_lt l k 3 (by omega)
        have hl8 := (l[k]).toNat_lt
        exact ⟨k + 1, by omega, by go_num, by rw [or32 _ _ (by omega) (by omega), hs.out]⟩
      case measure => simp [intOf]; omega
    · have hkl : k = l.length := by omega
      subst hkl
      go_wp2_with fail
      go_ret
      exact hfin'.out _ (by simp)
theorem get64_any (W : World) (rb N : Nat) (s : RS) (h : RD W rb N s) :
    Calls Tryd.prog 58 #[.pointer (some ⟨rb, 0, none⟩), .int .i64 8] W (NumP W rb N .u64 (rU64 s)) := by
  go_enter Tryd.func58, Tryd.ntmps58
  go_wp2_with fail
  refine (take_any W rb N s h 8 (by omega)).mono ?_
  rintro e W1 ⟨a, c, rfl, hc, hr, h1, k1⟩
  have hfin : ∀ x : Nat, x = be (rTake s 8).1 → NumP W rb N .u64 (rU64 s) (.returned (.int .u64 (x : Int))) W1 := by
    intro x hx; subst hx; exact ⟨rfl, h1, k1⟩
  have h4 := rTake_len s 8
  generalize (rTake s 8).1 = l at *
  have hfin' := Hid.mk hfin
  clear hfin
  clear h1 k1 h
  go_wp2_with fail
  go_loop [5, 16] (fun x i => ∃ k : Nat, k ≤ l.length ∧ i = .int .i64 k ∧ x = .int .u64 (be (l.take k) : Nat)) (fun _ i => l.length - (intOf i).toNat)
  case atStart => exact ⟨0, Nat.zero_le _, rfl, rfl⟩
  case round =>
    obtain ⟨k, hk, rfl, rfl⟩ := hrel
    by_cases hlt : k < l.length
    · have hs : Hid (be (l.take (k + 1)) = be (l.take k) * 256 + l[k].toNat) := be_take_succ l k hlt
      obtain ⟨b, o, rfl, hb, hcell⟩ := hr.at k (bt8 l[k]) (by simp [List.getElem?_eq_getElem hlt])
      simp only [bt8] at hcell
      go_wp2_with fail
      go_round
      case rel =>
        have hb3 := be_take_lt l k 7 (by omega)
        have hl8 := (l[k]).toNat_lt
        exact ⟨k + 1, by omega, by go_num, by rw [or64 _ _ (by omega) (by omega), hs.out]⟩
      case measure => simp [intOf]; omega
    · have hkl : k = l.length := by omega
      subst hkl
      go_wp2_with fail
      go_ret
      exact hfin'.out _ (by simp)

theorem u32_any (W : World) (rb N : Nat) (s : RS) (h : RD W rb N s) :
    Calls Tryd.prog 35 #[.pointer (some ⟨rb, 0, none⟩)] W (NumP W rb N .u32 (rU32 s)) := by
  go_enter Tryd.func35, Tryd.ntmps35
  go_wp2_with fail
  refine (get32_any W rb N s h).mono ?_
  rintro e W1 ⟨rfl, h1⟩
  have h2 := Hid.mk h1
  clear h1 h
  go_wp2_with fail
  go_ret
  exact ⟨rfl, h2.out⟩

theorem u64_any (W : World) (rb N : Nat) (s : RS) (h : RD W rb N s) :
    Calls Tryd.prog 37 #[.pointer (some ⟨rb, 0, none⟩)] W (NumP W rb N .u64 (rU64 s)) := by
  go_enter Tryd.func37, Tryd.ntmps37
  go_wp2_with fail
  refine (get64_any W rb N s h).mono ?_
  rintro e W1 ⟨rfl, h1⟩
  have h2 := Hid.mk h1
  clear h1 h
  go_wp2_with fail
  go_ret
  exact ⟨rfl, h2.out⟩

def BoolP (W : World) (rb N : Nat) (x : Bool × RS) : Ending → World → Prop := fun r W' =>
  r = .returned (.bool x.1) ∧ RD W' rb N x.2 ∧ Kp (On rb) W W'

theorem rbool_any (W : World) (rb N : Nat) (s : RS) (h : RD W rb N s) :
    Calls Tryd.prog 39 #[.pointer (some ⟨rb, 0, none⟩)] W (BoolP W rb N (rBool s)) := by
  go_enter Tryd.func39, Tryd.ntmps39
  go_wp2_with fail
  refine (u32_any W rb N s h).mono ?_
  rintro e W1 ⟨rfl, h1, k1⟩
  by_cases hx : 1 < (rU32 s).1
  · have e1 : Hid (rBool s = (false, rFail (rU32 s).2 11)) := by simp only [Hid, rBool, if_pos hx]
    clear h
    go_wp2_with fail
    refine (fail_any W1 rb N _ h1 11).mono ?_
    rintro e W2 ⟨rfl, h2, k2⟩
    have h3 : Hid (RD W2 rb N (rFail (rU32 s).2 11) ∧ Kp (On rb) W W2) := ⟨h2, k1.trans k2⟩
    clear h2 k2 h1 k1
    go_wp2_with fail
    go_ret
    unfold BoolP
    rw [e1.out]
    exact ⟨rfl, h3.out⟩
  · have e1 : Hid (rBool s = ((rU32 s).1 == 1, (rU32 s).2)) := by simp only [Hid, rBool, if_neg hx]
    have h3 : Hid (RD W1 rb N (rU32 s).2 ∧ Kp (On rb) W W1) := ⟨h1, k1⟩
    clear h1 k1 h
    generalize (rU32 s).1 = n at *
    go_wp2_with fail
    go_ret
    unfold BoolP
    rw [e1.out]
    refine ⟨?_, h3.out⟩
    by_cases h1 : n = 1
    · subst h1; rfl
    · have : ((n : Int) == 1) = false := by simp; omega
      have h2 : (n == 1) = false := by simpa using h1
      simp [this, h2]

theorem left_any (W : World) (rb N : Nat) (s : RS) (h : RD W rb N s) :
    Calls Tryd.prog 64 #[.pointer (some ⟨rb, 0, none⟩)] W fun r W' => r = .returned (.int .i64 (s.1.length : Int)) ∧ W = W' := by
  obtain ⟨hN, hl, a, c, hc, hb, hr⟩ := h
  have c0 := cell_blk hb 0
  simp at c0
  go_enter Tryd.func64, Tryd.ntmps64
  go_wp2
  go_ret
  exact ⟨rfl, rfl⟩

theorem end_any (W : World) (rb N : Nat) (s : RS) (h : RD W rb N s) :
    Calls Tryd.prog 40 #[.pointer (some ⟨rb, 0, none⟩)] W fun r W' => r = .returned (.int .i64 (rEnd s)) ∧ W = W' := by
  have h' := h
  obtain ⟨l, q⟩ := s
  obtain ⟨hN, hl, a, c, hc, hb, hr⟩ := h'
  have c0 := cell_blk hb 0
  simp at c0
  dsimp only at *
  by_cases hq : q = 0
  · subst hq
    by_cases hl0 : 0 < l.length
    · have e1 : Hid (rEnd (l, 0) = 12) := by simp [Hid, rEnd, hl0]
      go_enter Tryd.func40, Tryd.ntmps40
      go_wp2_with fail
      refine (err_any W rb N _ h).mono ?_
      rintro e W1 ⟨rfl, rfl⟩
      clear h hb hr
      go_wp2_with fail
      go_ret
      rw [e1.out]
      exact ⟨rfl, rfl⟩
    · have e1 : Hid (rEnd (l, 0) = 0) := by simp [Hid, rEnd, hl0]
      go_enter Tryd.func40, Tryd.ntmps40
      go_wp2_with fail
      refine (err_any W rb N _ h).mono ?_
      rintro e W1 ⟨rfl, rfl⟩
      clear h hb hr
      go_wp2_with fail
      go_ret
      rw [e1.out]
      exact ⟨rfl, rfl⟩
  · have e1 : Hid (rEnd (l, q) = q) := by simp [Hid, rEnd, hq]
    have hq1 : (q != 0) = true := by simpa using hq
    go_enter Tryd.func40, Tryd.ntmps40
    go_wp2_with fail
    refine (err_any W rb N _ h).mono ?_
    rintro e W1 ⟨rfl, rfl⟩
    clear h hb hr
    go_wp2_with fail
    go_ret
    rw [e1.out]
    exact ⟨rfl, rfl⟩
end Go.Proofs.YtnfcjfbepaoimaaDoor
