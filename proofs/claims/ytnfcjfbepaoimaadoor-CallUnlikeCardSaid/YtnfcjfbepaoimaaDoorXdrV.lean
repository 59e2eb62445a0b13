/- Package xdr: the writer's bytes, and all that was put. -/
import Derived.Test.YtnfcjfbepaoimaaDoorXdrW
set_option linter.unusedVariables false
set_option linter.unusedSimpArgs false
namespace Go.Proofs.YtnfcjfbepaoimaaDoor
open Go.RowKit

set_option maxRecDepth 100000 in
theorem wBool_any (W : World) (wb base : Nat) (l : List UInt8) (v : Value) (h : WV W wb base v l) (hl : l.length ≤ 35184372088832) (x : Bool) :
    Calls Tryd.prog 26 #[.pointer (some ⟨wb, 0, none⟩), .bool x] W (PutP W wb base v (l ++ pBool x)) := by
  cases x
  all_goals
    go_enter Tryd.func26, Tryd.ntmps26
    go_wp2_with fail
    first
      | refine (wU32_any W wb base l v h hl 0 (by omega)).mono ?_
      | refine (wU32_any W wb base l v h hl 1 (by omega)).mono ?_
    rintro e W1 ⟨rfl, h1⟩
    have h2 := Hid.mk h1
    clear h1 h
    go_wp2_with fail
    go_end0
    exact ⟨rfl, h2.out⟩

set_option maxRecDepth 100000 in
set_option maxHeartbeats 800000 in
theorem wOpaque_any (W : World) (wb base : Nat) (l : List UInt8) (v : Value) (h : WV W wb base v l) (hl : l.length ≤ 17592186044416) (N c : Nat) (a : Option Addr) (b : List UInt8) (hr : Rd W N a (bys b))
    (hbl : b.length ≤ 17592186044416) (hd : 0 < b.length → ∀ k o, a = some ⟨k, o, none⟩ → k ≠ wb ∧ v.ownBlock ≠ some k) :
    Calls Tryd.prog 25 #[.pointer (some ⟨wb, 0, none⟩), .slice a b.length c] W (PutP W wb base v (l ++ pOpaque b)) := by
  obtain ⟨i0, hi0, hz0, hz1, hz2⟩ := info_parts info_u8
  have hi0 := Hid.mk hi0
  have hz0 := Hid.mk hz0
  have hz1 := Hid.mk hz1
  have hz2 := Hid.mk hz2
  have hlt := lt_of_blk h.2.1
  go_enter Tryd.func25, Tryd.ntmps25
  go_wp2_with fail
  have e0 : ((b.length : Int) % 4294967296) = ((b.length % 4294967296 : Nat) : Int) := by omega
  rw [e0]
  clear e0
  refine (wU32_any W wb base l v h (by omega) (b.length % 4294967296) (by omega)).mono ?_
  rintro e W1 ⟨rfl, v1, h1, k1, t1⟩
  have hr1 : Rd W1 N a (bys b) := fun hp => hr.kpa k1 (fun k o e x y => by have hp := (by simpa using hp : 0 < b.length); rcases y with y | y; exact (hd hp k o e).1 y; exact (hd hp k o e).2 y) hp
  have hlt1 := lt_of_blk h1.2.1
  have hown := h1.2.2
  have c0 := cell_blk h1.2.1 0
  simp at c0
  have hr1 := Hid.mk hr1
  have hown := Hid.mk hown
  have h1 := Hid.mk h1
  have k1 := Hid.mk k1
  have t1 := Hid.mk t1
  clear hr h hd
  have el : (l ++ pU32 (b.length % 4294967296)).length = l.length + 4 := by simp [pU32_length]
  have el := Hid.mk el
  go_wp2_with (at_builtin; go_must (refine wpList_app _ rfl (.tmp 15) (.tmp 16) 29 rfl base 5 i0 (.int .u8 0) 1 1 Tryd.underlying29 hi0.out hz0.out hz1.out hz2.out rfl (by decide) v1 _ _ rfl hown.out a N b.length c (bys b) rfl ?len hr1.out (u8_one b) ?b1 ?b2 ?b3 ?_))
  case len => simp
  case b1 => rw [el.out]; simp only [maxLen]; omega
  case b2 => rw [el.out]; omega
  case b3 => have := h1.out.1; omega
  intro v2 W2 hown2 hg2 hat2
  have hb2 : W2.heap[wb]? = some (.cells #[v1] 106 (0, 0)) := (Kp.of_grown hg2).block _ _ h1.out.2.1 (fun e => h1.out.ne e.symm)
  have hne2 : v2.ownBlock ≠ some wb := by
    intro e
    rcases hat2 wb e with h | h
    · exact h1.out.ne h
    · omega
  have hlt2 := lt_of_blk hb2
  have hsz2 := hg2.size
  have hown2 := Hid.mk hown2
  have hat2 := Hid.mk hat2
  have hg2 := Hid.mk hg2
  have hf4 := fill_lt b.length
  go_wp2_with fail
  refine (fill_any W2 b.length (by omega)).mono ?_
  rintro e W3 ⟨rfl, rfl⟩
  go_wp2_with (at_builtin; go_must (refine wpList_appz _ rfl (.tmp 17) (.tmp 20) 29 3 rfl base 5 i0 Tryd.underlying29 Tryd.underlying3 hi0.out hz0.out hz1.out hz2.out v2 _ _ rfl hown2.out (fill b.length) rfl ?b4 ?b5 ?_))
  case b4 => omega
  case b5 => have := h1.out.1; omega
  intro v3 W3 hown3 hg3 hat3
  have hown3 : W3.ownsRow base 5 1 v3 (l ++ pOpaque b).length (bys (l ++ pOpaque b)) := by
    have e1 : l.length + 4 + b.length + fill b.length = (l ++ pOpaque b).length := by simp [pOpaque_length]; omega
    have e2 : (List.map bt8 l ++ (List.map bt8 (pU32 (b.length % 4294967296)) ++ (bys b ++ List.replicate (fill b.length) (bt8 0)))) = bys (l ++ pOpaque b) := by simp [pOpaque]
    rw [← e1, ← e2]; exact hown3
  have hb3 : W3.heap[wb]? = some (.cells #[v1] 106 (0, 0)) := (Kp.of_grown hg3).block _ _ hb2 (fun e => hne2 e.symm)
  have hst : WV (W3.setCell ⟨wb, 0, none⟩ v3) wb base v3 (l ++ pOpaque b) ∧ Kp (SV wb v1) W1 (W3.setCell ⟨wb, 0, none⟩ v3) ∧ Then W1 v1 v3 := by
    have hat13 : Then W1 v1 v3 := fun k hk => by
      rcases hat3 k hk with h | h
      · exact hat2.out k h
      · exact .inr (by omega)
    have hne3 : v3.ownBlock ≠ some wb := by
      intro e
      rcases hat13 wb e with h | h
      · exact h1.out.ne h
      · omega
    refine ⟨⟨h1.out.1, by have := blk_set hb3 0 v3; simpa using this, own_kp hown3 (S := On wb) ((Kp.refl _ _).setCell (.inr fun _ => rfl) _) (fun g cur hg _ x => hne3 (hg.trans (congrArg some x)))⟩, ?_, hat13⟩
    have k2 : Kp (SV wb v1) W1 W2 := (Kp.of_grown hg2.out).mono (fun i o e => .inr e.symm)
    have k3 : Kp (SV wb v1) W1 W3 := k2.then (Kp.of_grown hg3) (fun i o hi _ e => by
      rcases hat2.out i e.symm with h | h
      · exact .inr h
      · have := lt_of_blk hi; omega)
    exact k3.setCell (.inr fun o => .inl rfl) _
  have c3 := cell_blk hb3 0
  have f3 := frozen_blk hb3 0
  simp at c3
  obtain ⟨a3, q3, rfl, _, _, _⟩ := own_out hown3
  have e3 : (l ++ pOpaque b).length = l.length + (pOpaque b).length := by simp
  rw [e3] at hst
  have hst := Hid.mk hst
  clear hown3 hg3 hat3 hb3 e3
  go_wp2_with fail
  go_end0
  exact ⟨rfl, _, hst.out.1, SV.trans k1.out hst.out.2.1 t1.out, t1.out.trans k1.out hst.out.2.2⟩

theorem out_any (W : World) (wb base : Nat) (l : List UInt8) (v : Value) (h : WV W wb base v l) (hl : l.length ≤ 35184372088832) :
    Calls Tryd.prog 27 #[.pointer (some ⟨wb, 0, none⟩)] W (OutB Nn W l) := by
  obtain ⟨a, c, rfl, hc, hr, _⟩ := own_out h.2.2
  have c0 := cell_blk h.2.1 0
  simp at c0
  clear h
  go_enter Tryd.func27, Tryd.ntmps27
  go_wp2_with fail
  refine (cloneB_any W _ a c l hr (by omega)).mono ?_
  rintro e W1 ⟨a', c', rfl, h'⟩
  have h' := Hid.mk h'
  clear hr
  go_wp2_with fail
  go_ret
  exact ⟨a', c', rfl, h'.out⟩
end Go.Proofs.YtnfcjfbepaoimaaDoor
