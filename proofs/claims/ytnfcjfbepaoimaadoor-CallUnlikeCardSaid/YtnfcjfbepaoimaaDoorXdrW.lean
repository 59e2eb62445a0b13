/- Package xdr: the writer: each function's contract. -/
import Derived.Test.YtnfcjfbepaoimaaDoorXdrP
import Derived.Deep.AppendLies
import Derived.Deep.RegionHeld3
import Derived.Deep.RegionLaw
import Derived.IntWalk
set_option linter.unusedVariables false
set_option linter.unusedSimpArgs false
namespace Go.Proofs.YtnfcjfbepaoimaaDoor
open Go.RowKit

/-- What a writer may turn: its own block, rows of bytes from base on. -/
def SW (wb base : Nat) : Nat → Obj → Prop := fun k o => base ≤ k ∧ (k = wb ∨ Obj.isTy 5 o)

/-- .. just its own block, and the row that it has now. -/
def SV (wb : Nat) (v : Value) : Nat → Obj → Prop := fun k _ => k = wb ∨ v.ownBlock = some k

/-- The writer at block wb has put l; v: its row. -/
def WV (W : World) (wb base : Nat) (v : Value) (l : List UInt8) : Prop :=
  base ≤ wb ∧ W.heap[wb]? = some (.cells #[v] 106 (0, 0)) ∧ W.ownsRow base 5 1 v l.length (bys l)
def WR (W : World) (wb base : Nat) (l : List UInt8) : Prop := ∃ v, WV W wb base v l

/-- The row that it has then is the old one, or new. -/
def Then (W : World) (v v' : Value) : Prop := ∀ k, v'.ownBlock = some k → v.ownBlock = some k ∨ W.heap.size ≤ k

theorem Then.refl (W : World) (v : Value) : Then W v v := fun _ h => .inl h
theorem Then.trans {S : Nat → Obj → Prop} {W W1 : World} {v v1 v2 : Value} (h : Then W v v1) (k : Kp S W W1) (h2 : Then W1 v1 v2) : Then W v v2 := fun i hi => by
  rcases h2 i hi with h3 | h3
  · exact h i h3
  · exact .inr (Nat.le_trans k.size h3)
theorem SV.trans {wb : Nat} {W W1 W2 : World} {v v1 : Value} (h : Kp (SV wb v) W W1) (k : Kp (SV wb v1) W1 W2) (ht : Then W v v1) : Kp (SV wb v) W W2 :=
  h.then k fun i o hi _ x => by
    rcases x with x | x
    · exact .inl x
    · rcases ht i x with h3 | h3
      · exact .inr h3
      · have := lt_of_blk hi; omega

theorem own_kp {S : Nat → Obj → Prop} {W W1 : World} {base e size n : Nat} {v : Value} {xs : List Value} (h : W.ownsRow base e size v n xs) (k : Kp S W W1)
    (hs : ∀ g cur, v.ownBlock = some g → W.heap[g]? = some (.cells cur e (0, 0)) → ¬ S g (.cells cur e (0, 0))) : W1.ownsRow base e size v n xs := by
  refine ⟨h.1, ?_⟩
  rcases h.2 with h1 | ⟨g, cap, cur, rfl, hb, hg, r⟩
  · exact .inl h1
  · exact .inr ⟨g, cap, cur, rfl, hb, k.block _ _ hg (hs g cur rfl hg), r⟩

theorem own_blk {w : World} {base e size n : Nat} {v : Value} {xs : List Value} (h : w.ownsRow base e size v n xs) {k : Nat} (hk : v.ownBlock = some k) : base ≤ k ∧ ∃ cur, w.heap[k]? = some (.cells cur e (0, 0)) := by
  rcases h.2 with ⟨rfl, _⟩ | ⟨g, cap, cur, rfl, hb, hg, _⟩
  · simp [Value.ownBlock] at hk
  · simp [Value.ownBlock] at hk
    subst hk
    exact ⟨hb, cur, hg⟩

theorem WV.kp {S : Nat → Obj → Prop} {W W1 : World} {wb base : Nat} {v : Value} {l : List UInt8} (h : WV W wb base v l) (k : Kp S W W1) (h1 : ∀ o, ¬ S wb o) (h2 : ∀ g o, base ≤ g → Obj.isTy 5 o → ¬ S g o) : WV W1 wb base v l :=
  let ⟨h0, hb, ho⟩ := h; ⟨h0, k.block _ _ hb (h1 _), own_kp ho k (fun g cur hg hgg => h2 g _ (own_blk ho hg).1 rfl)⟩
theorem WR.kp {S : Nat → Obj → Prop} {W W1 : World} {wb base : Nat} {l : List UInt8} (h : WR W wb base l) (k : Kp S W W1) (h1 : ∀ o, ¬ S wb o) (h2 : ∀ g o, base ≤ g → Obj.isTy 5 o → ¬ S g o) : WR W1 wb base l :=
  let ⟨v, h⟩ := h; ⟨v, h.kp k h1 h2⟩
/-- The wide frame out of the narrow one. -/
theorem WV.wide {W W1 : World} {wb base : Nat} {v : Value} {l : List UInt8} (h : WV W wb base v l) (k : Kp (SV wb v) W W1) : Kp (SW wb base) W W1 :=
  ⟨k.os, k.tape, k.output, k.size, fun i o hi hn => k.block i o hi (fun x => hn (by
    rcases x with rfl | x
    · exact ⟨h.1, .inl rfl⟩
    · obtain ⟨hb, cur, hg⟩ := own_blk h.2.2 x
      rw [hg] at hi
      injection hi with hi
      subst hi
      exact ⟨hb, .inr rfl⟩))⟩
theorem WV.ne {W : World} {wb base : Nat} {v : Value} {l : List UInt8} (h : WV W wb base v l) : v.ownBlock ≠ some wb := by
  intro e
  obtain ⟨_, cur, hg⟩ := own_blk h.2.2 e
  exact blk_ne_of_ty hg h.2.1 (by decide) rfl

/-- Behind an append and the store. -/
theorem WV_store {W W0 W1 : World} {wb base m : Nat} {v v1 : Value} {l l1 : List UInt8} (h : WV W wb base v l)
    (hk : Kp Nn W W0) (hg : W0.grownBy W1 v.ownBlock) (hown1 : W1.ownsRow base 5 1 v1 m (bys l1)) (hm : m = l1.length) (hat : ∀ k, v1.ownBlock = some k → v.ownBlock = some k ∨ W0.heap.size ≤ k) :
    WV (W1.setCell ⟨wb, 0, none⟩ v1) wb base v1 l1 ∧ Kp (SV wb v) W (W1.setCell ⟨wb, 0, none⟩ v1) ∧ Then W v v1 := by
  subst hm
  have hne := h.ne
  obtain ⟨h0, hb, hown⟩ := h
  have hb0 := hk.block _ _ hb (fun x => x)
  have hb1 : W1.heap[wb]? = some (.cells #[v] 106 (0, 0)) := (Kp.of_grown hg).block _ _ hb0 (fun e => hne e.symm)
  have hne1 : ∀ g, v1.ownBlock = some g → g ≠ wb := by
    rintro g hg rfl
    rcases hat g hg with h | h
    · exact hne h
    · have := lt_of_blk hb0; omega
  refine ⟨⟨h0, by have := blk_set hb1 0 v1; simpa using this, own_kp hown1 (S := On wb) ((Kp.refl _ _).setCell (.inr fun _ => rfl) _) (fun g cur hg _ x => hne1 g hg x)⟩, ?_, fun k hkk => ?_⟩
  · have k1 : Kp (SV wb v) W W1 := (hk.nn (S := SV wb v)).then (Kp.of_grown hg) (fun i o hi _ e => .inr e.symm)
    exact k1.setCell (.inr fun o => .inl rfl) _
  · rcases hat k hkk with h | h
    · exact .inl h
    · exact .inr (Nat.le_trans hk.size h)

theorem newWriter_any (W : World) :
    Calls Tryd.prog 21 #[] W fun r W' => ∃ wb, r = .returned (.pointer (some ⟨wb, 0, none⟩)) ∧ W.heap.size ≤ wb ∧ WR W' wb W.heap.size [] ∧ Kp Nn W W' := by
  have hfin : Hid (WR (W.alloc (.cells #[.slice none 0 0] 106)) W.heap.size W.heap.size [] ∧ Kp Nn W (W.alloc (.cells #[.slice none 0 0] 106))) :=
    ⟨⟨.slice none 0 0, Nat.le_refl _, blk_new _ _, World.ownsRow_nil _ _ _ _⟩, (Kp.refl _ _).alloc _⟩
  go_enter Tryd.func21, Tryd.ntmps21
  go_wp2_with fail
  go_ret
  exact ⟨_, rfl, Nat.le_refl _, hfin.out.1, hfin.out.2⟩

def PutP (W : World) (wb base : Nat) (v : Value) (l : List UInt8) : Ending → World → Prop := fun r W' =>
  r = .returned (.tuple #[]) ∧ ∃ v', WV W' wb base v' l ∧ Kp (SV wb v) W W' ∧ Then W v v'

theorem enc_succ (n x : Nat) : enc (n + 1) x = UInt8.ofNat (x / 256 ^ n) :: enc n x := rfl

theorem byte_at (x j : Nat) : Value.int .u8 (IntKind.u8.wrap ((x : Int) / 2 ^ (8 * (j : Int)).toNat)) = bt8 (UInt8.ofNat (x / 256 ^ j)) := by
  have e : (8 * (j : Int)).toNat = 8 * j := by omega
  have e2 : (2 : Int) ^ (8 * j) = ((256 ^ j : Nat) : Int) := by rw [Int.pow_mul]; simp
  rw [e, e2, ← Int.natCast_ediv, IntKind.wrap_u8]
  simp [bt8]

set_option maxRecDepth 100000 in
set_option maxHeartbeats 800000 in
theorem put32_any (W : World) (wb base : Nat) (l : List UInt8) (v : Value) (h : WV W wb base v l) (hl : l.length ≤ 35184372088832) (x : Nat) (hx : x < 4294967296) :
    Calls Tryd.prog 51 #[.pointer (some ⟨wb, 0, none⟩), .int .u32 (x : Int), .int .i64 4] W (PutP W wb base v (l ++ pU32 x)) := by
  obtain ⟨i0, hi0, hz0, hz1, hz2⟩ := info_parts info_u8
  have hi0 := Hid.mk hi0
  have hz0 := Hid.mk hz0
  have hz1 := Hid.mk hz1
  have hz2 := Hid.mk hz2
  go_enter Tryd.func51, Tryd.ntmps51
  go_wp2_with fail
  go_loopw [2] (fun s Wr => ∃ (k : Nat) (d : List UInt8), k ≤ 4 ∧ s = .int .i64 k ∧ d.length ≤ 4 ∧ d ++ enc k x = enc 4 x ∧ ∃ v1, WV Wr wb base v1 (l ++ d) ∧ Kp (SV wb v) W Wr ∧ Then W v v1) (fun s _ => (intOf s).toNat)
  case atStart => exact ⟨4, [], Nat.le_refl _, rfl, by simp, rfl, v, by simpa using h, Kp.refl _ _, Then.refl _ _⟩
  case round =>
    obtain ⟨k, d, hk, rfl, hd4, hd, v1, hw, hkp, hth⟩ := hrel
    have hth := Hid.mk hth
    have hd := Hid.mk hd
    have hw' := hw
    obtain ⟨hbw, hb, hown⟩ := hw'
    have c0 := cell_blk hb 0
    have f0 := frozen_blk hb 0
    simp at c0
    have lb := lt_of_blk hb
    have hlen : (l ++ d).length ≤ 35184372088836 := by simp; omega
    by_cases hk0 : 0 < k
    · obtain ⟨j, rfl⟩ : ∃ j, k = j + 1 := ⟨k - 1, by omega⟩
      have hdl : Hid (d.length + 1 ≤ 4) := by have := congrArg List.length hd.out; simp [enc_length] at this; unfold Hid; omega
      go_wp2_with fail
      have hm8 : IntKind.i64.wrap (8 * (j : Int)) = 8 * (j : Int) := IntWalk.i64_in _ (by omega)
      have hne := hw.ne
      have hS0 : ∀ c, (wr.alloc (.cells c 5)).drew.cell? ⟨wb, 0, none⟩ = some v1 ∧ (wr.alloc (.cells c 5)).drew.frozen? ⟨wb, 0, none⟩ = false := fun c => ⟨(cell_blk (blk_drew (blk_alloc hb _)) 0).trans (by simp), frozen_blk (blk_drew (blk_alloc hb _)) 0⟩
      have hS1 : ∀ c w1, (wr.alloc (.cells c 5)).drew.grownBy w1 v1.ownBlock → w1.cell? ⟨wb, 0, none⟩ = some v1 ∧ w1.frozen? ⟨wb, 0, none⟩ = false := fun c w1 hg => ⟨(hg.cell_far _ (by simp; omega) (Ne.symm hne)).trans (hS0 c).1, (hg.frozen_far _ (by simp; omega) (Ne.symm hne)).trans (hS0 c).2⟩
      go_region_law ((refine step_append_lies _ (by rfl) _ _ _ (by rfl) base 5 i0 _ 1 1 Tryd.underlying29 hi0.out hz0.out hz1.out hz2.out rfl (by omega) v1 (l ++ d).length (bys (l ++ d)) (by rfl) ((hown.alloc _).drew) ⟨wr.heap.size, 0, none⟩ 1 1 [.int .u8 (IntKind.u8.wrap ((x : Int) / 2 ^ (8 * (j : Int)).toNat))] (by rfl) (by rfl) (World.news_of_block (cs := #[.int .u8 (IntKind.u8.wrap ((x : Int) / 2 ^ (8 * (j : Int)).toNat))]) (t := 5) (fr := (0, 0)) (heap_alloc_new wr _)) (by simp [Value.oneCell']) (by omega) (by simp only [maxLen]; omega) (by omega) (by simp; omega) (wr.heap.size + 1) (by simp) ?_; intro gg cap w1 hown1 hgrow hat hlt; have e1 := (hS1 _ _ hgrow).1; have e2 := (hS1 _ _ hgrow).2))
      all_goals
        have hst := WV_store (l1 := l ++ (d ++ [UInt8.ofNat (x / 256 ^ j)])) hw (((Kp.refl Nn wr).alloc _).drew) hgrow (by rw [byte_at] at hown1; simpa using hown1) (by simp; omega) (by
          intro k hk
          simp [Value.ownBlock] at hk
          subst hk
          rcases hat with h | h
          · exact .inl h
          · right; simp; omega)
        have hst := Hid.mk hst
        clear e1 e2 hgrow hown1
        go_wp2_with fail
        go_roundw
        case rel => exact ⟨j, d ++ [UInt8.ofNat (x / 256 ^ j)], by omega, rfl, by have := hdl.out; simp; omega, by rw [List.append_assoc]; exact hd.out, _, hst.out.1, SV.trans hkp hst.out.2.1 hth.out, hth.out.trans hkp hst.out.2.2⟩
        case measure => simp [intOf]
    · obtain rfl : k = 0 := by omega
      have hfin : Hid (PutP W wb base v (l ++ pU32 x) (.returned (.tuple #[])) wr) := by
        refine ⟨rfl, v1, ?_, hkp, hth.out⟩
        have e := hd.out
        simp only [enc, List.append_nil] at e
        rw [show pU32 x = d from e.symm]
        exact hw
      clear hw hown hb hkp
      go_wp2_with fail
      go_end0
      exact hfin.out
set_option maxRecDepth 100000 in
set_option maxHeartbeats 800000 in
theorem put64_any (W : World) (wb base : Nat) (l : List UInt8) (v : Value) (h : WV W wb base v l) (hl : l.length ≤ 35184372088832) (x : Nat) (hx : x < 18446744073709551616) :
    Calls Tryd.prog 52 #[.pointer (some ⟨wb, 0, none⟩), .int .u64 (x : Int), .int .i64 8] W (PutP W wb base v (l ++ pU64 x)) := by
  obtain ⟨i0, hi0, hz0, hz1, hz2⟩ := info_parts info_u8
  have hi0 := Hid.mk hi0
  have hz0 := Hid.mk hz0
  have hz1 := Hid.mk hz1
  have hz2 := Hid.mk hz2
  go_enter Tryd.func52, Tryd.ntmps52
  go_wp2_with fail
  go_loopw [2] (fun s Wr => ∃ (k : Nat) (d : List UInt8), k ≤ 8 ∧ s = .int .i64 k ∧ d.length ≤ 8 ∧ d ++ enc k x = enc 8 x ∧ ∃ v1, WV Wr wb base v1 (l ++ d) ∧ Kp (SV wb v) W Wr ∧ Then W v v1) (fun s _ => (intOf s).toNat)
  case atStart => exact ⟨8, [], Nat.le_refl _, rfl, by simp, rfl, v, by simpa using h, Kp.refl _ _, Then.refl _ _⟩
  case round =>
    obtain ⟨k, d, hk, rfl, hd4, hd, v1, hw, hkp, hth⟩ := hrel
    have hth := Hid.mk hth
    have hd := Hid.mk hd
    have hw' := hw
    obtain ⟨hbw, hb, hown⟩ := hw'
    have c0 := cell_blk hb 0
    have f0 := frozen_blk hb 0
    simp at c0
    have lb := lt_of_blk hb
    have hlen : (l ++ d).length ≤ 35184372088840 := by simp; omega
    by_cases hk0 : 0 < k
    · obtain ⟨j, rfl⟩ : ∃ j, k = j + 1 := ⟨k - 1, by omega⟩
      have hdl : Hid (d.length + 1 ≤ 8) := by have := congrArg List.length hd.out; simp [enc_length] at this; unfold Hid; omega
      go_wp2_with fail
      have hm8 : IntKind.i64.wrap (8 * (j : Int)) = 8 * (j : Int) := IntWalk.i64_in _ (by omega)
      have hne := hw.ne
      have hS0 : ∀ c, (wr.alloc (.cells c 5)).drew.cell? ⟨wb, 0, none⟩ = some v1 ∧ (wr.alloc (.cells c 5)).drew.frozen? ⟨wb, 0, none⟩ = false := fun c => ⟨(cell_blk (blk_drew (blk_alloc hb _)) 0).trans (by simp), frozen_blk (blk_drew (blk_alloc hb _)) 0⟩
      have hS1 : ∀ c w1, (wr.alloc (.cells c 5)).drew.grownBy w1 v1.ownBlock → w1.cell? ⟨wb, 0, none⟩ = some v1 ∧ w1.frozen? ⟨wb, 0, none⟩ = false := fun c w1 hg => ⟨(hg.cell_far _ (by simp; omega) (Ne.symm hne)).trans (hS0 c).1, (hg.frozen_far _ (by simp; omega) (Ne.symm hne)).trans (hS0 c).2⟩
      go_region_law ((refine step_append_lies _ (by rfl) _ _ _ (by rfl) base 5 i0 _ 1 1 Tryd.underlying29 hi0.out hz0.out hz1.out hz2.out rfl (by omega) v1 (l ++ d).length (bys (l ++ d)) (by rfl) ((hown.alloc _).drew) ⟨wr.heap.size, 0, none⟩ 1 1 [.int .u8 (IntKind.u8.wrap ((x : Int) / 2 ^ (8 * (j : Int)).toNat))] (by rfl) (by rfl) (World.news_of_block (cs := #[.int .u8 (IntKind.u8.wrap ((x : Int) / 2 ^ (8 * (j : Int)).toNat))]) (t := 5) (fr := (0, 0)) (heap_alloc_new wr _)) (by simp [Value.oneCell']) (by omega) (by simp only [maxLen]; omega) (by omega) (by simp; omega) (wr.heap.size + 1) (by simp) ?_; intro gg cap w1 hown1 hgrow hat hlt; have e1 := (hS1 _ _ hgrow).1; have e2 := (hS1 _ _ hgrow).2))
      all_goals
        have hst := WV_store (l1 := l ++ (d ++ [UInt8.ofNat (x / 256 ^ j)])) hw (((Kp.refl Nn wr).alloc _).drew) hgrow (by rw [byte_at] at hown1; simpa using hown1) (by simp; omega) (by
          intro k hk
          simp [Value.ownBlock] at hk
          subst hk
          rcases hat with h | h
          · exact .inl h
          · right; simp; omega)
        have hst := Hid.mk hst
        clear e1 e2 hgrow hown1
        go_wp2_with fail
        go_roundw
        case rel => exact ⟨j, d ++ [UInt8.ofNat (x / 256 ^ j)], by omega, rfl, by have := hdl.out; simp; omega, by rw [List.append_assoc]; exact hd.out, _, hst.out.1, SV.trans hkp hst.out.2.1 hth.out, hth.out.trans hkp hst.out.2.2⟩
        case measure => simp [intOf]
    · obtain rfl : k = 0 := by omega
      have hfin : Hid (PutP W wb base v (l ++ pU64 x) (.returned (.tuple #[])) wr) := by
        refine ⟨rfl, v1, ?_, hkp, hth.out⟩
        have e := hd.out
        simp only [enc, List.append_nil] at e
        rw [show pU64 x = d from e.symm]
        exact hw
      clear hw hown hb hkp
      go_wp2_with fail
      go_end0
      exact hfin.out

theorem wU32_any (W : World) (wb base : Nat) (l : List UInt8) (v : Value) (h : WV W wb base v l) (hl : l.length ≤ 35184372088832) (x : Nat) (hx : x < 4294967296) :
    Calls Tryd.prog 22 #[.pointer (some ⟨wb, 0, none⟩), .int .u32 (x : Int)] W (PutP W wb base v (l ++ pU32 x)) := by
  go_enter Tryd.func22, Tryd.ntmps22
  go_wp2_with fail
  refine (put32_any W wb base l v h hl x hx).mono ?_
  rintro e W1 ⟨rfl, h1⟩
  have h2 := Hid.mk h1
  clear h1 h
  go_wp2_with fail
  go_end0
  exact ⟨rfl, h2.out⟩

theorem wU64_any (W : World) (wb base : Nat) (l : List UInt8) (v : Value) (h : WV W wb base v l) (hl : l.length ≤ 35184372088832) (x : Nat) (hx : x < 18446744073709551616) :
    Calls Tryd.prog 24 #[.pointer (some ⟨wb, 0, none⟩), .int .u64 (x : Int)] W (PutP W wb base v (l ++ pU64 x)) := by
  have hx := Hid.mk hx
  go_enter Tryd.func24, Tryd.ntmps24
  go_wp2_with fail
  refine (put64_any W wb base l v h hl x hx.out).mono ?_
  rintro e W1 ⟨rfl, h1⟩
  have h2 := Hid.mk h1
  clear h1 h
  go_wp2_with fail
  go_end0
  exact ⟨rfl, h2.out⟩
end Go.Proofs.YtnfcjfbepaoimaaDoor
