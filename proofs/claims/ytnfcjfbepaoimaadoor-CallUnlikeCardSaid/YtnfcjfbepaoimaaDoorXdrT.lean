/- Package xdr: many reads in a row. -/
import Derived.Test.YtnfcjfbepaoimaaDoorXdrP
set_option linter.unusedVariables false
set_option linter.unusedSimpArgs false
namespace Go.Proofs.YtnfcjfbepaoimaaDoor
open Go.RowKit

/-- A reader that was made behind W0 has s; of what lay in W0 nothing has turned. -/
def GetS (W0 W : World) (rb : Nat) (s : RS) : Prop := (∃ N, RD W rb N s) ∧ W0.heap.size ≤ rb ∧ Kp Nn W0 W
theorem GetS.lt {W0 W : World} {rb : Nat} {s : RS} (h : GetS W0 W rb s) : rb < W.heap.size := let ⟨⟨_, _, _, _, _, _, hb, _⟩, _, _⟩ := h; lt_of_blk hb
theorem GetS.nn {W0 W W1 : World} {rb : Nat} {s : RS} (h : GetS W0 W rb s) (k : Kp Nn W W1) : GetS W0 W1 rb s :=
  let ⟨⟨N, hr⟩, h1, h0⟩ := h; ⟨⟨N, hr.kp k (fun _ x => x) (fun _ _ _ x => x)⟩, h1, h0.trans k⟩
theorem GetS.alloc {W0 W : World} {rb : Nat} {s : RS} (h : GetS W0 W rb s) (o : Obj) : GetS W0 (W.alloc o) rb s := h.nn ((Kp.refl _ _).alloc o)
theorem GetS.ty {W0 W : World} {rb : Nat} {s : RS} (h : GetS W0 W rb s) : ∃ arr, W.heap[rb]? = some (.cells arr 113 (0, 0)) := let ⟨⟨_, _, _, _, _, _, hb, _⟩, _, _⟩ := h; ⟨_, hb⟩
/-- What is new to the reader may turn. -/
theorem GetS.on {W0 W W1 : World} {rb : Nat} {s : RS} (h : GetS W0 W rb s) {S : Nat → Obj → Prop} (k : Kp S W W1) (hS : ∀ b o, S b o → rb < b) : GetS W0 W1 rb s :=
  let ⟨⟨N, hr⟩, h1, h0⟩ := h
  ⟨⟨N, hr.kp k (fun o x => Nat.lt_irrefl _ (hS _ o x)) (fun b o hb x => by have := hS _ _ x; have := hr.1; omega)⟩, h1, h0.then k (fun i o hi _ x => by have := lt_of_blk hi; have := hS _ _ x; omega)⟩
theorem GetS.set {W0 W : World} {rb b k : Nat} {s : RS} {v : Value} (h : GetS W0 W rb s) (hb : rb < b) : GetS W0 (W.setCell ⟨b, k, none⟩ v) rb s :=
  h.on (S := On b) ((Kp.refl _ _).setCell (.inr fun _ => rfl) v) (fun b o x => by cases x; exact hb)
theorem GetS.step {W0 W W' : World} {rb N : Nat} {s' : RS} (h1 : W0.heap.size ≤ rb) (h0 : Kp Nn W0 W) (h : RD W' rb N s') (k : Kp (On rb) W W') : GetS W0 W' rb s' :=
  ⟨⟨N, h⟩, h1, h0.then k (fun i o hi _ x => by have := lt_of_blk hi; have : i = rb := x; omega)⟩

section
variable {W0 W : World} {rb : Nat} {s : RS} (h : GetS W0 W rb s)
include h
theorem gU32 : Calls Tryd.prog 35 #[.pointer (some ⟨rb, 0, none⟩)] W fun r W' => r = .returned (.int .u32 ((rU32 s).1 : Int)) ∧ GetS W0 W' rb (rU32 s).2 ∧ Kp (On rb) W W' := by
  obtain ⟨⟨N, hr⟩, h1, h0⟩ := h
  refine (u32_any W rb N s hr).mono ?_
  rintro e W' ⟨rfl, hr', k⟩
  exact ⟨rfl, GetS.step h1 h0 hr' k, k⟩
theorem gU64 : Calls Tryd.prog 37 #[.pointer (some ⟨rb, 0, none⟩)] W fun r W' => r = .returned (.int .u64 ((rU64 s).1 : Int)) ∧ GetS W0 W' rb (rU64 s).2 ∧ Kp (On rb) W W' := by
  obtain ⟨⟨N, hr⟩, h1, h0⟩ := h
  refine (u64_any W rb N s hr).mono ?_
  rintro e W' ⟨rfl, hr', k⟩
  exact ⟨rfl, GetS.step h1 h0 hr' k, k⟩
theorem gBool : Calls Tryd.prog 39 #[.pointer (some ⟨rb, 0, none⟩)] W fun r W' => r = .returned (.bool (rBool s).1) ∧ GetS W0 W' rb (rBool s).2 ∧ Kp (On rb) W W' := by
  obtain ⟨⟨N, hr⟩, h1, h0⟩ := h
  refine (rbool_any W rb N s hr).mono ?_
  rintro e W' ⟨rfl, hr', k⟩
  exact ⟨rfl, GetS.step h1 h0 hr' k, k⟩
theorem gOpaque (m : Int) (hm0 : 0 ≤ m) (hm : m ≤ 4096) : Calls Tryd.prog 38 #[.pointer (some ⟨rb, 0, none⟩), .int .i64 m] W fun r W' => (∃ a c, r = .returned (.slice a (rOpaque s m.toNat).1.length c) ∧ (rOpaque s m.toNat).1.length ≤ c ∧ Rd W' W'.heap.size a (bys (rOpaque s m.toNat).1)) ∧ GetS W0 W' rb (rOpaque s m.toNat).2 ∧ Kp (On rb) W W' := by
  obtain ⟨⟨N, hr⟩, h1, h0⟩ := h
  refine (opaque_any W rb N s hr m hm0 hm).mono ?_
  rintro e W' ⟨a, c, rfl, hc, hr2, hr', k⟩
  exact ⟨⟨a, c, rfl, hc, hr2⟩, GetS.step h1 h0 hr' k, k⟩
theorem gLeft : Calls Tryd.prog 64 #[.pointer (some ⟨rb, 0, none⟩)] W fun r W' => r = .returned (.int .i64 (s.1.length : Int)) ∧ W = W' := by
  obtain ⟨⟨N, hr⟩, h1, h0⟩ := h
  exact left_any W rb N s hr
theorem gEnd : Calls Tryd.prog 40 #[.pointer (some ⟨rb, 0, none⟩)] W fun r W' => r = .returned (.int .i64 (rEnd s)) ∧ W = W' := by
  obtain ⟨⟨N, hr⟩, h1, h0⟩ := h
  exact end_any W rb N s hr
theorem gErr : Calls Tryd.prog 59 #[.pointer (some ⟨rb, 0, none⟩)] W fun r W' => r = .returned (.int .i64 s.2) ∧ W = W' := by
  obtain ⟨⟨N, hr⟩, h1, h0⟩ := h
  exact err_any W rb N s hr
end
/-- .. while the block b, that is new to the reader, is filled; wr: the world ahead of it. -/
def GB (W0 wr W : World) (rb b : Nat) (T : TypeId) (arr : Array Value) (s : RS) : Prop :=
  GetS W0 W rb s ∧ W.heap[b]? = some (.cells arr T (0, 0)) ∧ rb < b ∧ Kp (fun k _ => k = rb ∨ b ≤ k) wr W
section
variable {W0 wr W W' : World} {rb b : Nat} {T : TypeId} {arr : Array Value} {s s' : RS}
theorem GB.start (h : GetS W0 wr rb s) (arr : Array Value) (T : TypeId) : GB W0 wr (wr.alloc (.cells arr T)) rb wr.heap.size T arr s :=
  ⟨h.alloc _, blk_new _ _, h.lt, (Kp.refl _ _).alloc _⟩
theorem GB.call (h : GB W0 wr W rb b T arr s) (hs : GetS W0 W' rb s') (k : Kp (On rb) W W') : GB W0 wr W' rb b T arr s' :=
  let ⟨_, hb, hr, hk⟩ := h; ⟨hs, k.block _ _ hb (fun x => by have : b = rb := x; omega), hr, hk.trans (k.mono fun _ _ x => .inl x)⟩
theorem GB.same (h : GB W0 wr W rb b T arr s) (k : Kp Nn W W') : GB W0 wr W' rb b T arr s :=
  let ⟨hs, hb, hr, hk⟩ := h; ⟨hs.nn k, k.block _ _ hb (fun x => x), hr, hk.trans k.nn⟩
theorem GB.set (h : GB W0 wr W rb b T arr s) (j : Nat) (v : Value) : GB W0 wr (W.setCell ⟨b, j, none⟩ v) rb b T (arr.setIfInBounds j v) s :=
  let ⟨hs, hb, hr, hk⟩ := h; ⟨hs.set hr, blk_set hb j v, hr, hk.setCell (.inr fun _ => .inr (Nat.le_refl _)) v⟩
theorem GB.cell (h : GB W0 wr W rb b T arr s) (j : Nat) : W.cell? ⟨b, j, none⟩ = arr[j]? := cell_blk h.2.1 j
theorem GB.frozen (h : GB W0 wr W rb b T arr s) (j : Nat) : W.frozen? ⟨b, j, none⟩ = false := frozen_blk h.2.1 j
end
theorem gNew (W : World) (N : Nat) (a : Option Addr) (c : Nat) (l : List UInt8) (h : Rd W N a (bys l)) (hl : l.length ≤ 70368744177664) :
    Calls Tryd.prog 34 #[.slice a l.length c] W fun r W' => ∃ rb, r = .returned (.pointer (some ⟨rb, 0, none⟩)) ∧ GetS W W' rb (l, 0) ∧ Kp Nn W W' := by
  refine (newReader_any W N a c l h hl).mono ?_
  rintro e W' ⟨rb, N', rfl, h1, hr, k⟩
  exact ⟨rb, rfl, ⟨⟨N', hr⟩, h1, k⟩, k⟩
end Go.Proofs.YtnfcjfbepaoimaaDoor
