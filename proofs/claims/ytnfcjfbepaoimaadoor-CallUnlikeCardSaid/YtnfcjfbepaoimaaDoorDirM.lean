/- Package dir: whether entries may be (a range over slices.Values). -/
import Derived.RangeFuncNested
import Derived.RangeFuncBound
import Derived.RangeFuncCalls
import Derived.RangeFuncLeaves
import Derived.Shelf.Abstract
import Derived.OwnWalkIn
import Derived.TacticsInMore
import Derived.LoopNIn
import Derived.LoopIn
import Derived.Test.YtnfcjfbepaoimaaDoorDirA
set_option linter.unusedVariables false
set_option linter.unusedSimpArgs false
namespace Go.Proofs.YtnfcjfbepaoimaaDoor
open Go.RowKit Go.Shelf
attribute [local go_sem] Oper.semAt_some

theorem Kp.ofBelow0 {W W1 : World} (h : Below W.heap.size W W1) : Kp Nn W W1 :=
  (Kp.ofBelow (S := fun k _ => W.heap.size ≤ k) h (fun k o x => x)).weak (fun k o hk x => by simp only [Nn]; omega)
theorem Kp.others {W W1 : World} (h : Kp Nn W W1) : KeepsOthers W W1 := ⟨h.size, fun k o hk _ => h.block k o hk (fun x => x)⟩
theorem take_snoc {α : Type} (l : List α) (k : Nat) (h : k < l.length) : l.take (k + 1) = l.take k ++ [l[k]] := by
  rw [List.take_add_one, List.getElem?_eq_getElem h]; rfl

set_option maxRecDepth 100000 in
set_option maxHeartbeats 1000000 in
/-- slices.Values's iterator over entries. -/
theorem values_round (F : Fence) (n : Nat) (hF : F.fn 72) (hro : F.round = none) (hn : 1 ≤ n) (l0 Bs n₀ : Nat) (a : Option Addr) (c : Nat) (l : List Ent) (hl : l.length ≤ 4398046511104) (J Jx : List Ent → World → Prop)
    (hY : ∀ pre x W, J pre W → pre.length < l.length → YieldAt F (n - 1) Tryd.prog l0 #[x.val] W fun e W' =>
      (e = .returned (.bool true) ∧ J (pre ++ [x]) W' ∧ Below n₀ W W') ∨ (e = .returned (.bool false) ∧ Jx (pre ++ [x]) W'))
    (W : World) (hJ : AbidesFrom W.heap.size J) (hBs : W.cell? ⟨Bs, 0, none⟩ = some (.slice a l.length c)) (hn0 : n₀ ≤ W.heap.size) (h : Rd W n₀ a (eCells l)) (h0 : J [] W) :
    CallsIn F n Tryd.prog 72 #[.func (.yield l0) #[] #[], .pointer (some ⟨Bs, 0, none⟩)] W fun e W' => (∃ v, e = .returned v) ∧
      ((∃ xs, xs = l ∧ J xs W') ∨ (∃ pre, pre <+: l ∧ Jx pre W')) := by
  have hJa : ∀ pre W1 o, J pre W1 → J pre (W1.alloc o) := fun pre W1 o h => hJ pre W1 _ none h (World.grownBy_alloc W1 o none) (fun r e => by cases e)
  refine callsIn_of_wp Tryd.func72 rfl hF ?_ hro
  simp only [Tryd.ntmps72, List.size_toArray, List.length_cons, List.length_nil, Nat.reduceAdd, Nat.reduceSub, Array.replicate_succ, Array.replicate_zero, List.push_toArray, List.append_toArray, List.nil_append, List.cons_append]
  gi_wp2
  gi_loopw [7] (fun i wr => ∃ k : Nat, k ≤ l.length ∧ i = .int .i64 k ∧ J (l.take k) wr ∧ Below n₀ W wr) (fun i _ => l.length - (intOf i).toNat)
  case atStart => exact ⟨0, Nat.zero_le _, rfl, by simpa using h0, Below.refl _ _⟩
  case round =>
    obtain ⟨k, hk, rfl, hJs, hnx⟩ := hrel
    by_cases hlt : k < l.length
    · obtain ⟨b, o, rfl, hb, c0, c1, c2, c3⟩ := eRd (h.below hnx (Nat.le_refl _)) k hlt
      have hsn := Hid.mk (take_snoc l k hlt)
      generalize hen : l[k] = en at *
      obtain ⟨fn, tmps, assign, body, hy, hR⟩ := hY (l.take k) en _ (hJa _ _ (.cells #[.int .u64 (en.cookie : Int), .int .u32 (en.ino : Int), .int .u32 (en.gen : Int), .string en.name] 78) hJs) (by simp; omega)
      dsimp only [Ent.val] at hy
      gi_wp2
      refine hR.mono ?_
      rintro e W3 (⟨rfl, hJ3, hk3⟩ | ⟨rfl, hJx3⟩)
      · gi_wp2
        have hb2 := (hnx.trans ((Below.refl n₀ wr).alloc (by have := hnx.size; omega) _)).trans hk3
        go_roundw
        case rel => exact ⟨k + 1, by omega, by go_num, by rw [hsn.out]; exact hJ3, hb2⟩
        case measure => simp [intOf]; omega
      · gi_wp2
        refine bodyPost_ret (results_none rfl _ _ _) rfl ?_
        exact ⟨⟨_, rfl⟩, .inr ⟨_, by rw [← hsn.out]; exact List.take_prefix _ _, hJx3⟩⟩
    · obtain rfl : k = l.length := by omega
      gi_wp2
      go_end0
      exact ⟨⟨_, rfl⟩, .inl ⟨_, rfl, by simpa using hJs⟩⟩

theorem values_in (F : Fence) (n : Nat) (hF : F.fn 67) (hro : F.round = none) (a : Option Addr) (len cap : Nat) (w : World) :
    CallsIn F n Tryd.prog 67 #[.slice a len cap] w fun e w' => e = .returned (.func (.func 72) #[] #[.pointer (some ⟨w.heap.size, 0, none⟩)]) ∧ w' = w.alloc (.cells #[.slice a len cap] 30) := by
  refine callsIn_of_wp Tryd.func67 rfl hF ?_ hro
  simp only [Tryd.ntmps67, List.size_toArray, List.length_cons, List.length_nil, Nat.reduceAdd, Nat.reduceSub, Array.replicate_succ, Array.replicate_zero, List.push_toArray, List.append_toArray, List.nil_append, List.cons_append]
  gi_wp2
  go_ret
  exact ⟨rfl, rfl⟩

theorem values_stops (F : Fence) (n : Nat) (hF : F.fn 72) (hro : F.round = none) (hn : 1 ≤ n) (Bs n₀ : Nat) (a : Option Addr) (c : Nat) (l : List Ent) (hl : l.length ≤ 4398046511104) (w : World) (hBs : Bs < w.heap.size) (hn₀ : n₀ ≤ w.heap.size)
    (hc : w.cell? ⟨Bs, 0, none⟩ = some (.slice a l.length c)) (h : Rd w n₀ a (eCells l)) :
    SeqStopsK F n Tryd.prog 72 #[.pointer (some ⟨Bs, 0, none⟩)] (fun e : Ent => #[e.val]) (Below n₀) (fun ys => ys = l) (fun pre => pre <+: l) l.length w := fun l0 J Jx W hW hJ _ hY h0 =>
  values_round F n hF hro hn l0 Bs n₀ a c l hl J Jx hY W hJ ((hW.cell (p := ⟨Bs, 0, none⟩) hBs).trans hc) (Nat.le_trans hn₀ hW.size) (h.below hW hn₀) h0

def mayP : List Ent → List Ent → Bool
  | _, [] => true
  | p, e :: r => (addE p e).2 == 0 && mayP (p ++ [e]) r
def mayL (l : List Ent) : Bool := mayP [] l
theorem mayP_snoc (e : Ent) : ∀ (r p : List Ent), mayP p (r ++ [e]) = (mayP p r && (addE (p ++ r) e).2 == 0)
  | [], p => by simp [mayP]
  | x :: r, p => by simp [mayP, mayP_snoc e r, Bool.and_assoc]
theorem mayL_snoc (l : List Ent) (e : Ent) : mayL (l ++ [e]) = (mayL l && (addE l e).2 == 0) := by simpa [mayL] using mayP_snoc e l []
theorem mayP_append : ∀ (r s p : List Ent), mayP p (r ++ s) = true → mayP p r = true
  | [], _, _, _ => rfl
  | x :: r, s, p, h => by
    simp only [List.cons_append, mayP, Bool.and_eq_true] at h ⊢
    exact ⟨h.1, mayP_append r s _ h.2⟩
theorem mayL_prefix {l m : List Ent} (h : l <+: m) (hf : mayL l = false) : mayL m = false := by
  obtain ⟨s, rfl⟩ := h
  cases e : mayL (l ++ s) with
  | false => rfl
  | true => rw [mayL, mayP_append l s [] e] at hf; cases hf
theorem addE_ok {l : List Ent} {e : Ent} (h : (addE l e).2 = 0) : (addE l e).1 = l ++ [e] := by
  unfold addE at h ⊢
  split
  · rename_i h1; rw [if_pos h1] at h; exact absurd h h1
  · rename_i h1; rw [if_neg h1] at h
    split
    · rename_i h2; rw [if_pos h2] at h; simp at h
    · rename_i h2; rw [if_neg h2] at h
      split
      · rename_i h3; rw [if_pos h3] at h; simp at h
      · rfl

theorem blk_own {X Y : World} {row : Option Nat} {B b : Nat} {arr : Array Value} {T : TypeId} {fr : Nat × Nat} (h : X.heap[b]? = some (.cells arr T fr)) (hg : X.grownBy Y row)
    (hr : ∀ r, row = some r → B ≤ r ∧ ∃ o : Obj, X.heap[r]? = some o ∧ o.isCells = false) : Y.heap[b]? = some (.cells arr T fr) := by
  refine (hg.block b (lt_of_blk h) (fun e => ?_)).trans h
  obtain ⟨_, o, ho, hc⟩ := hr b e.symm
  rw [h] at ho
  obtain rfl := Option.some.inj ho
  simp [Obj.isCells] at hc
theorem Rd.own {X Y : World} {row : Option Nat} {B : Nat} {a : Option Addr} {cs : List Value} (h : Rd X X.heap.size a cs) (hg : X.grownBy Y row)
    (hr : ∀ r, row = some r → B ≤ r ∧ ∃ o : Obj, X.heap[r]? = some o ∧ o.isCells = false) : Rd Y Y.heap.size a cs := fun hp =>
  let ⟨b, o, e, hb, hc⟩ := h hp; ⟨b, o, e, Nat.lt_of_lt_of_le hb hg.size, fun j u hu => cell_kept (hc j u hu) hg (fun r e => (hr r e).2)⟩

/-- Between two rounds: what has come may be, and is held. -/
def MayI (W0 : World) (B2 : Nat) (pre : List Ent) (W : World) : Prop :=
  (∃ a c, W.heap[B2 + 1]? = some (.cells #[.slice a pre.length c] 30 (0, 0)) ∧ Rd W W.heap.size a (eCells pre)) ∧ W.heap[B2]? = some (.cells #[.bool false] 4 (0, 0)) ∧ mayL pre = true ∧ Below W0.heap.size W0 W
def MayX (W0 : World) (B2 : Nat) (pre : List Ent) (W : World) : Prop :=
  W.heap[B2]? = some (.cells #[.bool false] 4 (0, 0)) ∧ mayL pre = false ∧ Below W0.heap.size W0 W

set_option maxRecDepth 100000 in
set_option maxHeartbeats 2000000 in
theorem may_in (n : Nat) (hn : 4 ≤ n) (W : World) (N : Nat) (a : Option Addr) (c : Nat) (l : List Ent) (h : Rd W N a (eCells l)) (hN : N ≤ W.heap.size) (hl : l.length ≤ 4398046511103) :
    CallsIn Fence.wide n Tryd.prog 50 #[.slice a l.length c] W fun r W' => r = .returned (.bool (mayL l)) ∧ Below W.heap.size W W' := by
  have h1 : 1 ≤ n := by omega
  refine callsIn_of_wp_marks Tryd.func50 rfl trivial ?_ rfl
  simp only [Tryd.ntmps50, List.size_toArray, List.length_cons, List.length_nil, Nat.reduceAdd, Nat.reduceSub, Array.replicate_succ, Array.replicate_zero, List.push_toArray, List.append_toArray, List.nil_append, List.cons_append]
  gi_wp2_with (refine ⟨trivial, ?_⟩; gi_at_call 67; refine (values_in Fence.wide (n - 1) trivial rfl _ _ _ _).mono ?_; rintro e w' ⟨rfl, rfl⟩)
  have b2 : (((W.alloc (.cells #[.bool false] 4)).alloc (.cells #[.slice none 0 0] 30)).alloc (.cells #[.slice a l.length c] 30)).heap[W.heap.size]? = some (.cells #[.bool false] 4 (0, 0)) := blk_alloc (blk_alloc (blk_new _ _) _) _
  have b3 : (((W.alloc (.cells #[.bool false] 4)).alloc (.cells #[.slice none 0 0] 30)).alloc (.cells #[.slice a l.length c] 30)).heap[W.heap.size + 1]? = some (.cells #[.slice none 0 0] 30 (0, 0)) := blk_alloc (by have := blk_new (W.alloc (.cells #[.bool false] 4)) (.cells #[.slice none 0 0] 30); simpa using this) _
  have b4 : (((W.alloc (.cells #[.bool false] 4)).alloc (.cells #[.slice none 0 0] 30)).alloc (.cells #[.slice a l.length c] 30)).cell? ⟨W.heap.size + 1 + 1, 0, none⟩ = some (.slice a l.length c) := by
    have := cell_blk (blk_new ((W.alloc (.cells #[.bool false] 4)).alloc (.cells #[.slice none 0 0] 30)) (.cells #[.slice a l.length c] 30)) 0
    simpa using this
  have hB0 : Below W.heap.size W (((W.alloc (.cells #[.bool false] 4)).alloc (.cells #[.slice none 0 0] 30)).alloc (.cells #[.slice a l.length c] 30)) := (((Below.refl _ W).alloc (Nat.le_refl _) _).alloc (by simp) _).alloc (by simp; omega) _
  have hsz : (((W.alloc (.cells #[.bool false] 4)).alloc (.cells #[.slice none 0 0] 30)).alloc (.cells #[.slice a l.length c] 30)).heap.size = W.heap.size + 3 := by simp
  obtain ⟨W0, hW0⟩ : ∃ W0, ((W.alloc (.cells #[.bool false] 4)).alloc (.cells #[.slice none 0 0] 30)).alloc (.cells #[.slice a l.length c] 30) = W0 := ⟨_, rfl⟩
  rw [hW0] at b2 b3 b4 hB0 hsz ⊢
  clear hW0
  have hr0 : Rd W0 W.heap.size a (eCells l) := (h.mono hN).below hB0 (Nat.le_refl _)
  refine wpIn_rangeFunc_ownH rfl h1 (gf := 72) (lb := #[.pointer (some ⟨W.heap.size + 1 + 1, 0, none⟩)]) rfl trivial (enters_of Tryd.func72 (by kernel_rfl) rfl)
    (values_stops Fence.wide (n - 1) trivial rfl (by omega) (W.heap.size + 1 + 1) W.heap.size a c l (by omega) W0 (by omega) (by omega) b4 hr0) belowK_t (belowK_b (by omega)) (Below.refl _ _) (fun _ => rfl)
    (MayI W W.heap.size) (fun co => fun pre W1 => co = .ret ∧ MayX W W.heap.size pre W1) ?hI ?hIx ?h0
    (fun e a' W1 => ∃ Bx, W.heap.size + 1 < Bx ∧ entBlk W1 Bx e ∧ a' = { tmps := #[.slice a l.length c, undef, .pointer (some ⟨W.heap.size, 0, none⟩), .pointer (some ⟨W.heap.size + 1, 0, none⟩), .pointer (some ⟨Bx, 0, none⟩), undef, undef, .slice a l.length c, .func (.func 72) #[] #[.pointer (some ⟨W.heap.size + 1 + 1, 0, none⟩)], e.val, undef, undef, undef, undef, undef, undef, undef, undef, undef], defers := [] })
    ?hAx ?assign ?body ?done ?stop
  case hI =>
    rintro pre X Y row ⟨⟨a1, c1, g3, r3⟩, g2, hm, hb⟩ hg hr
    exact ⟨⟨a1, c1, blk_own g3 hg hr, r3.own hg hr⟩, blk_own g2 hg hr, hm, hb.grown hg (Nat.le_trans (Nat.le_refl _) hb.size) (fun k e => by have := (hr k e).1; omega)⟩
  case hIx =>
    rintro co pre X Y row ⟨hc, g2, hm, hb⟩ hg hr
    exact ⟨hc, blk_own g2 hg hr, hm, hb.grown hg (Nat.le_trans (Nat.le_refl _) hb.size) (fun k e => by have := (hr k e).1; omega)⟩
  case h0 => exact ⟨⟨none, 0, b3, Rd.nil _ _ _⟩, b2, rfl, hB0⟩
  case hAx =>
    rintro e a' _ X Y row ⟨Bx, h1, h2, h3⟩ hg hr
    exact ⟨Bx, h1, blk_own h2 hg hr, h3⟩
  case assign =>
    rintro l1 pre e W1 K ⟨⟨a1, c1, g3, r3⟩, g2, hm, hb⟩ hK
    have l3 := lt_of_blk g3
    gi_wp2
    exact hK _ _ ((KeepsOthers.alloc _ _).from _) ((Below.refl _ W1).alloc hb.size _) ⟨⟨a1, c1, blk_alloc g3 _, (r3.alloc _).mono (by simp)⟩, blk_alloc g2 _, hm, hb.alloc hb.size _⟩ ⟨W1.heap.size, by omega, blk_new _ _, rfl⟩
  case body =>
    rintro l1 pre e a' W1 hl1 ⟨r, hr⟩ ⟨⟨a1, c1, g3, r3⟩, g2, hm, hb⟩ ⟨Bx, hBx, bX, rfl⟩ hlt
    have x0 := bX.c0
    have x1 := bX.c1
    have x2 := bX.c2
    have x3 := bX.c3
    have y3 := cell_blk g3 0
    simp at y3
    have h1' : 1 ≤ n - 1 - 1 := by omega
    have l2 := lt_of_blk g2
    have l3 := lt_of_blk g3
    have hkf : ∀ W2, Kp Nn W1 W2 → KeepsFrom W0.heap.size W1 W2 := fun W2 k => k.others.from _
    have hkb : ∀ W2, Kp Nn W1 W2 → Below W.heap.size W1 W2 := fun W2 k => k.below hb.size (fun _ _ _ x => x)
    have hb' := Hid.mk hb
    have hkf := Hid.mk hkf
    have hkb := Hid.mk hkb
    have hs1 := hb.size
    have hms := mayL_snoc pre e
    rw [hm, Bool.true_and] at hms
    have hms := Hid.mk hms
    by_cases h0 : (addE pre e).2 = 0
    · have ha := Hid.mk (addE_ok h0)
      gi_wp2_with (refine ⟨trivial, ?_⟩; gi_at_call 68; refine (CallsIn.inRound l1 (callsIn_wide.2 (add_any W1 W1.heap.size a1 c1 pre r3 (Nat.le_refl _) (by omega) e))).mono ?_; rintro e2 W2 ⟨v2, rfl, own2, k2⟩; rw [h0]; obtain ⟨a2, c2, rfl, hc2, r2, hob⟩ := own_out own2; have hnb : ∀ b o, a2 = some ⟨b, o, none⟩ → ¬ b = W.heap.size + 1 := (by rintro b o rfl hx; have := hob b rfl; omega); have g3' := k2.block _ _ g3 (fun x => x); have g2' := k2.block _ _ g2 (fun x => x); have z3 := cell_blk g3' 0; simp at z3; have f3 := frozen_blk g3' 0; rw [ha.out] at r2; have r2 := Hid.mk r2; have k2 := Hid.mk k2)
      have hbw := (hkb.out W2 k2.out)
      refine ⟨(hkf.out W2 k2.out).trans ((KeepsOthers.setCell _ _ _).from _), hbw.setCell (p := ⟨W.heap.size + 1, 0, none⟩) (by simp) _, ⟨a2, c2, ?_, ?_⟩, blk_set_ne g2' (by omega) _ _, by rw [hms.out, h0]; rfl, (hb'.out.trans hbw).setCell (p := ⟨W.heap.size + 1, 0, none⟩) (by simp) _⟩
      · rw [← ha.out]; exact blk_set g3' 0 _
      · refine (r2.out.kpa (S := On (W.heap.size + 1)) ((Kp.refl _ _).setCell (.inr fun _ => rfl) _) ?_).mono (by simp [World.setCell])
        rintro b o rfl _ hx
        exact (hnb b o rfl) hx
    · have hne : ((addE pre e).2 != 0) = true := by simpa using h0
      gi_wp2_with (refine ⟨trivial, ?_⟩; gi_at_call 68; refine (CallsIn.inRound l1 (callsIn_wide.2 (add_any W1 W1.heap.size a1 c1 pre r3 (Nat.le_refl _) (by omega) e))).mono ?_; rintro e2 W2 ⟨v2, rfl, own2, k2⟩; obtain ⟨a2, c2, rfl, hc2, r2, _⟩ := own_out own2; have g3' := k2.block _ _ g3 (fun x => x); have g2' := k2.block _ _ g2 (fun x => x); have z2 := cell_blk g2' 0; simp at z2; have f2 := frozen_blk g2' 0; have r2 := Hid.mk r2; have k2 := Hid.mk k2)
      have hbw := (hkb.out W2 k2.out)
      exact ⟨(hkf.out W2 k2.out).trans ((KeepsOthers.setCell _ _ _).from _), rfl, blk_set g2' 0 _, by rw [hms.out]; simpa using h0, (hb'.out.trans hbw).setCell (p := ⟨W.heap.size, 0, none⟩) (by simp) _⟩
  case done =>
    rintro D ys W1 hD rfl ⟨⟨a1, c1, g3, r3⟩, g2, hm, hb⟩ hK
    have y2 := cell_blk g2 0
    simp at y2
    have f2 := frozen_blk g2 0
    gi_wp2
    have hK' := (KeepsOthers.setCell W1 ⟨W.heap.size, 0, none⟩ (.bool true)).same D _ hK rfl
    refine ⟨by simp, .inl ⟨_, _, rfl, run_takeDeferred hK', ?_⟩⟩
    have hc5 := cell_kept (World.cell?_setCell_same' W1 ⟨W.heap.size, 0, none⟩ (.bool true) (by rw [y2]; rfl)) (grownBy_putObj' _ D (.deferred none)) (fun r e => by cases e; exact ⟨_, hK', rfl⟩)
    refine ⟨.bool true, ?_, by rw [hm], (hb.setCell (p := ⟨W.heap.size, 0, none⟩) (Nat.le_refl _) _).trans (belowK_b (w := W) (Nat.le_refl _) _ D _ _ (by omega) hK' rfl rfl)⟩
    simp [results, Tryd.f50, go_sem, hc5]
  case stop =>
    rintro D co pre W1 hD hpre ⟨rfl, g2, hm, hb⟩ hK
    have y2 := cell_blk g2 0
    simp at y2
    gi_wp2
    refine ⟨by simp, .inl ⟨_, _, rfl, run_takeDeferred hK, ?_⟩⟩
    have hc5 := cell_kept y2 (grownBy_putObj' _ D (.deferred none)) (fun r e => by cases e; exact ⟨_, hK, rfl⟩)
    refine ⟨.bool false, ?_, by rw [mayL_prefix hpre hm], hb.trans (belowK_b (w := W) (Nat.le_refl _) W1 D _ _ (by omega) hK rfl rfl)⟩
    simp [results, Tryd.f50, go_sem, hc5]

theorem may_any (W : World) (N : Nat) (a : Option Addr) (c : Nat) (l : List Ent) (h : Rd W N a (eCells l)) (hN : N ≤ W.heap.size) (hl : l.length ≤ 4398046511103) :
    Calls Tryd.prog 50 #[.slice a l.length c] W fun r W' => r = .returned (.bool (mayL l)) ∧ Kp Nn W W' :=
  (callsIn_wide.1 (may_in 4 (Nat.le_refl _) W N a c l h hN hl)).mono fun _ _ ⟨h1, h2⟩ => ⟨h1, Kp.ofBelow0 h2⟩
end Go.Proofs.YtnfcjfbepaoimaaDoor
