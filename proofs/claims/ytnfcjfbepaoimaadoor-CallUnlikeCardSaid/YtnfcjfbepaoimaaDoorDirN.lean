/- dir.Name: whether a name may be. -/
import Derived.Test.YtnfcjfbepaoimaaDoorNames
import Derived.Shelf.Strings.IndexAnyAll
set_option linter.unusedVariables false
set_option linter.unusedSimpArgs false
namespace Go.Proofs.YtnfcjfbepaoimaaDoor
open Go.RowKit

theorem zeroSet (w : World) : (zeroValue 138).run Tryd.prog w = .ok (.agg (Array.replicate 256 (.bool false))) w := by kernel_rfl

theorem indexAny_bad (s : ByteArray) (w : World) (hs : s.size < 4294967281) :
    Calls Tryd.prog 80 #[.string s, .string badS] w fun e w' => e = .returned (.int .i64 (Lib.indexAny s.data.toList badS.data.toList)) ∧ Kp Nn w w' := by
  by_cases h8 : s.size ≤ 8
  · exact indexAny_short s w h8
  · refine (Tryd.strings_IndexAny_long zeroSet s badS w (by show 2 ≤ 2; omega) (by omega) hs (by show 2 < 4294967281; omega) ?_).mono fun e w' ⟨h1, h2⟩ => ⟨h1, ?_⟩
    · intro j b hj
      match j, hj with
      | 0, hj => have : b = 47 := by simpa [badS] using hj.symm
                 subst this; decide
      | 1, hj => have : b = 0 := by simpa [badS] using hj.symm
                 subst this; decide
      | j + 2, hj => simp [badS] at hj
    · rw [h2]; exact ((Kp.refl _ _).alloc _).alloc _

def hasBad (s : ByteArray) : Bool := decide (0 ≤ Lib.indexAny s.data.toList badS.data.toList)

theorem containsAny_bad (s : ByteArray) (w : World) (hs : s.size < 4294967281) :
    Calls Tryd.prog 77 #[.string s, .string badS] w fun e w' => e = .returned (.bool (hasBad s)) ∧ Kp Nn w w' := by
  go_enter Tryd.func77, Tryd.ntmps77
  go_wp2_with fail
  refine (indexAny_bad s w hs).mono ?_
  rintro e W1 ⟨rfl, k1⟩
  have k1 := Hid.mk k1
  have e1 : Hid (hasBad s = decide (0 ≤ Lib.indexAny s.data.toList badS.data.toList)) := rfl
  generalize Lib.indexAny s.data.toList badS.data.toList = q at *
  go_wp2_with fail
  go_ret
  rw [e1.out]
  exact ⟨rfl, k1.out⟩

/-- No name. -/
def badName (s : ByteArray) : Bool := s.toList.isEmpty || decide (24 < s.size) || hasBad s || s.toList == [46] || s.toList == [46, 46]
def nameErr (s : ByteArray) : Int := if badName s then 67 else 0

def NameP (s : ByteArray) (w : World) : Ending → World → Prop := fun e w' => e = .returned (.int .i64 (nameErr s)) ∧ Kp Nn w w'

set_option maxRecDepth 100000 in
theorem name_any (s : ByteArray) (w : World) : Calls Tryd.prog 73 #[.string s] w (NameP s w) := by
  cases h0 : s.toList.isEmpty with
  | true =>
    have e : Hid (nameErr s = 67) := by simp [Hid, nameErr, badName, h0]
    go_enter Tryd.func73, Tryd.ntmps73
    go_wp2_with fail
    go_ret
    exact ⟨by rw [e.out]; rfl, Kp.refl _ _⟩
  | false =>
    by_cases h24 : 24 < s.size
    · have e : Hid (nameErr s = 67) := by simp [Hid, nameErr, badName, h24]
      go_enter Tryd.func73, Tryd.ntmps73
      go_wp2_with fail
      go_ret
      exact ⟨by rw [e.out]; rfl, Kp.refl _ _⟩
    · cases hb : hasBad s with
      | true =>
        have e : Hid (nameErr s = 67) := by simp [Hid, nameErr, badName, hb]
        have hb := Hid.mk hb
        go_enter Tryd.func73, Tryd.ntmps73
        go_wp2_with (go_at_call 77; go_must (refine (containsAny_bad s _ (by omega)).mono ?_); rintro e W1 ⟨rfl, k1⟩; rw [hb.out])
        go_ret
        exact ⟨by rw [e.out]; rfl, by assumption⟩
      | false =>
        cases h3 : s.toList == [46] with
        | true =>
          have e : Hid (nameErr s = 67) := by simp only [Hid, nameErr, badName, h3, Bool.or_true, Bool.true_or, if_true]
          have hb := Hid.mk hb
          go_enter Tryd.func73, Tryd.ntmps73
          go_wp2_with (go_at_call 77; go_must (refine (containsAny_bad s _ (by omega)).mono ?_); rintro e W1 ⟨rfl, k1⟩; rw [hb.out])
          go_ret
          exact ⟨by rw [e.out]; rfl, by assumption⟩
        | false =>
          cases h4 : s.toList == [46, 46] with
          | true =>
            have e : Hid (nameErr s = 67) := by simp only [Hid, nameErr, badName, h4, Bool.or_true, Bool.true_or, if_true]
            have hb := Hid.mk hb
            go_enter Tryd.func73, Tryd.ntmps73
            go_wp2_with (go_at_call 77; go_must (refine (containsAny_bad s _ (by omega)).mono ?_); rintro e W1 ⟨rfl, k1⟩; rw [hb.out])
            go_ret
            exact ⟨by rw [e.out]; rfl, by assumption⟩
          | false =>
            have e : Hid (nameErr s = 0) := by simp only [Hid, nameErr, badName, h0, h24, hb, h3, h4]; rfl
            have hb := Hid.mk hb
            go_enter Tryd.func73, Tryd.ntmps73
            go_wp2_with (go_at_call 77; go_must (refine (containsAny_bad s _ (by omega)).mono ?_); rintro e W1 ⟨rfl, k1⟩; rw [hb.out])
            go_ret
            exact ⟨by rw [e.out]; rfl, by assumption⟩
end Go.Proofs.YtnfcjfbepaoimaaDoor
