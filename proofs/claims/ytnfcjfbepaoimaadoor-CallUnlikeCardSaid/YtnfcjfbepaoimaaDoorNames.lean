/- strings.ContainsAny of the two bytes that no name holds; dir.Name. -/
import Derived.Test.YtnfcjfbepaoimaaDoorXdrV
import Derived.Test.YtnfcjfbepaoimaaDoorShelf
import Derived.Laws.RangeAny
import Derived.Lib.OthersKept
set_option linter.unusedVariables false
set_option linter.unusedSimpArgs false
namespace Go.Proofs.YtnfcjfbepaoimaaDoor
open Go.RowKit

def badS : ByteArray := ⟨#[47, 0]⟩
theorem badS_lt : ∀ i (hi : i < badS.size), (badS[i]'hi).toNat < 128
  | 0, _ => show (47 : UInt8).toNat < 128 from by decide
  | 1, _ => show (0 : UInt8).toNat < 128 from by decide
  | i + 2, h => absurd h (by show ¬ i + 2 < 2; omega)
theorem valid_of {r : Int} (h : Lib.validRune r = true) : Utf8.valid r = true := by
  simp [Lib.validRune] at h
  simp [Utf8.valid]
  omega

theorem indexByte_empty (c : Int) (w : World) : Calls Tryd.prog 85 #[.string ByteArray.empty, .int .u8 c] w fun e w' => e = .returned (.int .i64 (-1)) ∧ w' = w :=
  (Tryd.strings_IndexByte ByteArray.empty c w).mono fun _ _ h => h

set_option maxRecDepth 100000 in
set_option maxHeartbeats 1600000 in
theorem indexRune_hi (w : World) (r : Int) (h0 : 128 ≤ r) (h1 : r ≤ 1114111) :
    Calls Tryd.prog 81 #[.string badS, .int .i32 r] w fun e w' => ∃ q, e = .returned (.int .i64 q) ∧ q < 0 ∧ Kp Nn w w' := by
  have hb : badS.size = 2 := rfl
  by_cases hr : r = 65533
  · subst hr
    go_enter Tryd.func81, Tryd.ntmps81
    go_wp2_with fail
    go_loopg [5, 6] 2 (fun g _ _ wx => ∃ i : Nat, i + g = 2 ∧ wx = w.iter badS i)
    case atStart => exact ⟨0, by omega, rfl⟩
    case round =>
      obtain ⟨i, hig, rfl⟩ := hrel
      cases gk with
      | zero =>
        obtain rfl : i = 2 := by omega
        have hnx := run_next_end (P := Tryd.prog) w badS 2
        go_wp2
        first | (rw [Exit.noGoto_ret]; go_ret) | go_ret
        exact ⟨-1, rfl, by omega, (Kp.refl _ _).alloc _⟩
      | succ g =>
        have hi : i < badS.size := by omega
        have hb : ((badS[i]'hi).toNat : Int) ≠ 65533 := by have := (badS[i]'hi).toNat_lt; omega
        have hx : (badS[i]'hi).toNat < 128 := badS_lt i hi
        have hnx := fun ty => run_next_ascii (P := Tryd.prog) w badS i ty hi hx
        have hb' : (((badS[i]'hi).toNat : Int) == 65533) = false := by simpa using hb
        clear hb
        generalize (badS[i]'hi).toNat = x at *
        go_wp2_with fail
        go_roundg g
        case measure => omega
        case rel => exact ⟨i + 1, by omega, rfl⟩
  · by_cases hv : Lib.validRune r = true
    · have hv2 := valid_of hv
      obtain ⟨e1, e2, e3⟩ := encode_facts r hv2 h0
      have hr' : (r == 65533) = false := by simpa using hr
      obtain ⟨rs, hrs⟩ : ∃ rs, Utf8.encode r = rs := ⟨_, rfl⟩
      rw [hrs] at e1 e2 e3
      clear hv2
      by_cases hs : rs.size = 2
      · go_enter Tryd.func81, Tryd.ntmps81
        go_wp2_with (go_at_call 86; refine (Tryd.utf8_ValidRune r _).mono ?_; rintro e w' ⟨rfl, hw⟩; rw [hw, hv])
        go_step3
        go_wp2_with fail
        have h1 : 1 < rs.size := by omega
        have hy : 128 ≤ (rs[1]'h1).toNat := by have := e3 (by omega); simpa [hs] using this
        have hb1 : 1 < badS.size := by omega
        have hz : ((badS[1]'hb1).toNat : Int) = 0 := rfl
        have hne : ((0 : Int) != ((rs[1]'h1).toNat : Int)) = true := by simp; omega
        refine wp_loop_once ?_
        go_wp2_with fail
        go_step3
        go_wp2_with fail
        go_quiet (fail)
        go_wp2_with fail
        have hk1 : Kp Nn w (w.drewN nq) := (Kp.refl _ _).drewN _
        generalize w.drewN nq = w1 at *
        have hw2 : IntKind.i64.wrap 2 = 2 := rfl
        have hsl : ∀ w : World, (Instr.slice 9 (.string badS) (some (.int .i64 2)) none none).run Tryd.prog w = .ok (.string ByteArray.empty) w := fun _ => by kernel_rfl
        go_quiet ((go_at_call 85; exact Calls.quiet_of_same (indexByte_empty _ _)))
        go_wp2_with fail
        simp +zetaDelta only [Exit.noGoto_ret, Exit.inBlock, Exit.then]
        go_ret
        exact ⟨-1, rfl, by omega, hk1.drewN _⟩
      · have h3 : 3 ≤ rs.size := by omega
        go_enter Tryd.func81, Tryd.ntmps81
        go_wp2_with (go_at_call 86; refine (Tryd.utf8_ValidRune r _).mono ?_; rintro e w' ⟨rfl, hw⟩; rw [hw, hv])
        go_step3
        go_wp2_with fail
        refine wp_loop_once ?_
        go_wp2_with fail
        first | (rw [Exit.noGoto_ret]; go_ret) | go_ret
        exact ⟨-1, rfl, by omega, Kp.refl _ _⟩
    · have hv' : Lib.validRune r = false := by simpa using hv
      clear hv
      have hr' : (r == 65533) = false := by simpa using hr
      go_enter Tryd.func81, Tryd.ntmps81
      go_wp2_with (go_at_call 86; refine (Tryd.utf8_ValidRune r _).mono ?_; rintro e w' ⟨rfl, hw⟩; rw [hw, hv'])
      first | (rw [Exit.noGoto_ret]; go_ret) | go_ret
      exact ⟨-1, rfl, by omega, Kp.refl _ _⟩

theorem get!_eq (s : ByteArray) (k : Nat) (h : k < s.size) : s.get! k = s[k]'h := by
  show s.data[k]! = s.data[k]'h
  exact getElem!_pos s.data k h

theorem decode_hi (s : ByteArray) (i : Nat) (h : i < s.size) (hb : 128 ≤ (s.get! i).toNat) :
    128 ≤ (Utf8.decode s i).1 ∧ (Utf8.decode s i).1 ≤ 1114111 ∧ 1 ≤ (Utf8.decode s i).2 ∧ i + (Utf8.decode s i).2 ≤ s.size ∧ ∀ k, i ≤ k → k < i + (Utf8.decode s i).2 → 128 ≤ (s.get! k).toNat := by
  have hlt : ∀ k, (s.get! (i + k)).toNat < 256 := fun k => (s.get! (i + k)).toNat_lt
  have h0 := hlt 0; have h1 := hlt 1; have h2 := hlt 2; have h3 := hlt 3
  have one : ∀ c, 128 ≤ c → c ≤ 1114111 → 128 ≤ (c, 1).1 ∧ (c, 1).1 ≤ 1114111 ∧ 1 ≤ (c, 1).2 ∧ i + (c, 1).2 ≤ s.size ∧ ∀ k, i ≤ k → k < i + (c, 1).2 → 128 ≤ (s.get! k).toNat := by
    intro c hc hc2
    refine ⟨hc, hc2, Nat.le_refl _, by simp; omega, fun k hk hk2 => ?_⟩
    have : k = i := by simp at hk2; omega
    subst this; exact hb
  have hre : 128 ≤ Utf8.runeError ∧ Utf8.runeError ≤ 1114111 := by decide
  unfold Utf8.decode
  simp only [Nat.add_zero] at *
  rw [if_neg (by omega)]
  split
  · rename_i hc
    simp only [Bool.and_eq_true, decide_eq_true_eq, beq_iff_eq] at hc
    split
    · refine ⟨by simp; omega, by simp; omega, by simp, by simp; omega, fun k hk hk2 => ?_⟩
      have : k = i ∨ k = i + 1 := by simp at hk2; omega
      rcases this with rfl | rfl
      · exact hb
      · omega
    · exact one _ hre.1 hre.2
  · split
    · rename_i hc
      simp only [Bool.and_eq_true, decide_eq_true_eq, beq_iff_eq] at hc
      split
      · rename_i hv
        simp [Utf8.valid] at hv
        refine ⟨by simp; omega, by simp; omega, by simp, by simp; omega, fun k hk hk2 => ?_⟩
        have : k = i ∨ k = i + 1 ∨ k = i + 2 := by simp at hk2; omega
        rcases this with rfl | rfl | rfl
        · exact hb
        · omega
        · omega
      · exact one _ hre.1 hre.2
    · split
      · rename_i hc
        simp only [Bool.and_eq_true, decide_eq_true_eq, beq_iff_eq] at hc
        split
        · rename_i hv
          simp [Utf8.valid] at hv
          refine ⟨by simp; omega, by simp; omega, by simp, by simp; omega, fun k hk hk2 => ?_⟩
          have : k = i ∨ k = i + 1 ∨ k = i + 2 ∨ k = i + 3 := by simp at hk2; omega
          rcases this with rfl | rfl | rfl | rfl
          · exact hb
          · omega
          · omega
          · omega
        · exact one _ hre.1 hre.2
      · exact one _ hre.1 hre.2

theorem no_skip {s : ByteArray} {i j : Nat} (h : Lib.NoAny s.data.toList badS.data.toList i) (hj : ∀ k, i ≤ k → k < j → k < s.size → 128 ≤ (s.get! k).toNat) : Lib.NoAny s.data.toList badS.data.toList j := by
  intro k x hk hx
  by_cases hki : k < i
  · exact h k x hki hx
  · have hks : k < s.size := by have := (List.getElem?_eq_some_iff.1 hx).1; simpa using this
    have h1 := hj k (by omega) hk hks
    have e : s.get! k = x := by
      rw [get!_eq s k hks]
      have := Lib.data_getElem? s k hks
      rw [hx] at this
      exact (Option.some.inj this).symm
    rw [e] at h1
    show ([47, 0] : List UInt8).contains x = false
    simp
    constructor
    · rintro rfl; simp at h1
    · rintro rfl; simp at h1

theorem kp_iterAt {w wx : World} (h : Kp Nn w wx) (K : Nat) (hK : w.heap.size ≤ K) (s : ByteArray) (p : Nat) : Kp Nn w (wx.iterAt K s p) :=
  ⟨h.os, h.tape, h.output, by rw [Lib.iterAt_size]; exact h.size, fun k o hk hn => by
    rw [Lib.iterAt_other _ _ _ _ _ (by have := lt_of_blk hk; omega)]; exact h.block k o hk hn⟩

set_option maxHeartbeats 8000000 in
set_option maxRecDepth 1000000 in
theorem indexAny_short (s : ByteArray) (w : World) (h8 : s.size ≤ 8) :
    Calls Tryd.prog 80 #[.string s, .string badS] w fun e w' => e = .returned (.int .i64 (Lib.indexAny s.data.toList badS.data.toList)) ∧ Kp Nn w w' := by
  have h8z : decide ((8 : Int) < (s.size : Int)) = false := decide_eq_false (by omega)
  have hemp : badS.toList.isEmpty = false := by rw [Lib.toList_data]; rfl
  have hn1 : ((badS.size : Int) == 1) = false := rfl
  go_enter Tryd.func80, Tryd.ntmps80
  go_wp2_with (go_at_call 82; refine (Tryd.strings_shouldUseASCIISet _ _).mono ?_; rintro e w' ⟨rfl, hw⟩; rw [hw, h8z])
  go_loopg [9, 10] s.size (fun g _ _ wx => ∃ i : Nat, i + g = s.size ∧ wx.heap[w.heap.size]? = some (.stringIter s i) ∧ Kp Nn w wx ∧ Lib.NoAny s.data.toList badS.data.toList i)
  case atStart => exact ⟨0, by omega, blk_new _ _, (Kp.refl _ _).alloc _, Lib.NoAny.zero _ _⟩
  case round =>
    obtain ⟨i, hig, hit, hk, hno⟩ := hrel
    have hkk := Hid.mk hk
    clear hk
    have HN := Hid.mk hno
    clear hno
    cases gk with
    | zero =>
      obtain rfl : i = s.size := by omega
      have hnx := fun ty => Lib.run_next_end_at (P := Tryd.prog) wr w.heap.size s s.size ty hit (by omega)
      clear hit
      go_wp2
      go_ret
      exact ⟨by rw [Lib.indexAny_none (by rw [← Lib.size_eq]; exact HN.out)]; rfl, hkk.out⟩
    | succ g =>
      have hi : i < s.size := by omega
      have hit' := hit
      have hge := get!_eq s i hi
      by_cases hx : (s.get! i).toNat < 128
      · obtain ⟨x, hx'⟩ : ∃ x : UInt8, s[i]'hi = x := ⟨_, rfl⟩
        rw [hge, hx'] at hx
        clear hge
        have hxl : s.data.toList[i]? = some x := by rw [← hx']; exact Lib.data_getElem? s i hi
        have hnx := fun ty => Lib.run_next_ascii_at (P := Tryd.prog) wr w.heap.size s i ty hit hi (by rw [hx']; exact hx)
        rw [hx'] at hnx
        have Hx := Hid.mk hxl
        clear hxl hx'
        have hcon := Lib.contains_iff_indexByte badS.data.toList x
        have hback : ((x.toNat : Int)).toNat.toUInt8 = x := by simp
        cases hin : badS.data.toList.contains x
        · rw [hin] at hcon
          have hlt : ¬ ((0 : Int) ≤ Lib.indexByte badS.data.toList x) := of_decide_eq_false hcon.symm
          clear hcon
          go_wp2_with (go_at_call 81; refine (Tryd.strings_IndexRune_ascii _ _ _ (by omega) (by omega)).mono ?_; rintro e w' ⟨rfl, hw⟩; rw [hw, hback])
          go_roundg g
          case measure => omega
          case rel => exact ⟨i + 1, by omega, Lib.iterAt_heap _ _ _ _ _ hit', kp_iterAt hkk.out _ (Nat.le_refl _) _ _, HN.out.succ Hx.out hin⟩
        · rw [hin] at hcon
          have hge : (0 : Int) ≤ Lib.indexByte badS.data.toList x := of_decide_eq_true hcon.symm
          clear hcon
          go_wp2_with (go_at_call 81; refine (Tryd.strings_IndexRune_ascii _ _ _ (by omega) (by omega)).mono ?_; rintro e w' ⟨rfl, hw⟩; rw [hw, hback])
          go_ret
          exact ⟨by rw [Lib.indexAny_hit HN.out Hx.out hin]; rfl, kp_iterAt hkk.out _ (Nat.le_refl _) _ _⟩
      · clear hge
        obtain ⟨d1, d2, d3, d4, d5⟩ := decode_hi s i hi (by omega)
        have HS : Hid (Lib.NoAny s.data.toList badS.data.toList (i + (Utf8.decode s i).2)) := no_skip HN.out (fun k h1 h2 _ => d5 k h1 h2)
        clear d5
        have hnx := fun ty => Lib.run_next_any_at (P := Tryd.prog) wr w.heap.size s i ty hit hi
        generalize (Utf8.decode s i).1 = c at *
        generalize (Utf8.decode s i).2 = q at *
        clear hit
        go_wp2_with fail
        refine (indexRune_hi _ _ (by omega) (by omega)).mono ?_
        rintro e W2 ⟨z, rfl, hz, k2⟩
        have h2 := k2.block _ _ (Lib.iterAt_heap wr w.heap.size s i (i + q) hit') (fun x => x)
        have k3 := (kp_iterAt hkk.out w.heap.size (Nat.le_refl _) s (i + q)).trans k2
        have h2 := Hid.mk h2
        have k3 := Hid.mk k3
        clear k2
        go_wp2_with fail
        go_roundg (s.size - (i + q))
        case measure => omega
        case rel => exact ⟨i + q, by omega, h2.out, k3.out, HS.out⟩
end Go.Proofs.YtnfcjfbepaoimaaDoor
