/- What a call keeps, what a slice reads as: words and laws that no program is named in. -/
import Derived.WalkKit
import Derived.WalkSpells
import Derived.Outline
import Derived.Deep.Draws
import Derived.Deep.QuietTactic
import Derived.BigQuiet
import Derived.Laws.BytesArg
import Derived.Lib.ConvBytes
set_option linter.unusedVariables false
set_option linter.unusedSimpArgs false
namespace Go.Proofs.YtnfcjfbepaoimaaDoor
open Go.RowKit

/-- THE FRAME OF A CALL: what was there is there, but for the blocks of S. -/
structure Kp (S : Nat → Obj → Prop) (W W' : World) : Prop where
  os : W'.os = W.os
  tape : W'.tape = W.tape
  output : W'.output = W.output
  size : W.heap.size ≤ W'.heap.size
  block : ∀ k o, W.heap[k]? = some o → ¬ S k o → W'.heap[k]? = some o

/-- No block. -/
def Nn : Nat → Obj → Prop := fun _ _ => False
/-- One block. -/
def On (b : Nat) : Nat → Obj → Prop := fun k _ => k = b

theorem lt_of_blk {W : World} {k : Nat} {o : Obj} (h : W.heap[k]? = some o) : k < W.heap.size := (Array.getElem?_eq_some_iff.1 h).1

section
variable {S S' : Nat → Obj → Prop} {W W1 W2 : World}
theorem Kp.refl (S : Nat → Obj → Prop) (W : World) : Kp S W W := ⟨rfl, rfl, rfl, Nat.le_refl _, fun _ _ h _ => h⟩
theorem Kp.trans (h : Kp S W W1) (k : Kp S W1 W2) : Kp S W W2 :=
  ⟨k.os.trans h.os, k.tape.trans h.tape, k.output.trans h.output, Nat.le_trans h.size k.size, fun i o hi hn => k.block i o (h.block i o hi hn) hn⟩
theorem Kp.mono (h : Kp S W W1) (hs : ∀ k o, S k o → S' k o) : Kp S' W W1 := ⟨h.os, h.tape, h.output, h.size, fun i o hi hn => h.block i o hi (fun x => hn (hs i o x))⟩
/-- .. where what is old is asked alone. -/
theorem Kp.weak (h : Kp S W W1) (hs : ∀ k o, k < W.heap.size → S k o → S' k o) : Kp S' W W1 := ⟨h.os, h.tape, h.output, h.size, fun i o hi hn => h.block i o hi (fun x => hn (hs i o (lt_of_blk hi) x))⟩
theorem Kp.nn (h : Kp Nn W W1) : Kp S W W1 := h.mono (fun _ _ x => x.elim)
theorem Kp.drew (h : Kp S W W1) : Kp S W W1.drew := ⟨h.os, h.tape, h.output, h.size, h.block⟩
theorem Kp.drewN (h : Kp S W W1) (n : Nat) : Kp S W (W1.drewN n) := ⟨h.os, h.tape, h.output, h.size, h.block⟩
theorem Kp.alloc (h : Kp S W W1) (o : Obj) : Kp S W (W1.alloc o) :=
  ⟨h.os, h.tape, h.output, Nat.le_trans h.size (by simp), fun i x hi hn => by exact (heap_alloc_old W1 o (lt_of_blk (h.block i x hi hn))).trans (h.block i x hi hn)⟩
theorem Kp.setCell (h : Kp S W W1) {a : Addr} (ha : W.heap.size ≤ a.block ∨ ∀ o, S a.block o) (v : Value) : Kp S W (W1.setCell a v) :=
  ⟨h.os, h.tape, h.output, Nat.le_trans h.size (by simp [World.setCell]), fun i x hi hn => by
    have hne : i ≠ a.block := by
      rintro rfl
      rcases ha with ha | ha
      · have := lt_of_blk hi; omega
      · exact hn (ha x)
    rw [Below.heap_setCell _ _ _ _ hne]; exact h.block i x hi hn⟩
theorem Kp.of_grown {row : Option Nat} (h : W.grownBy W1 row) : Kp (fun k _ => some k = row) W W1 :=
  ⟨h.os, h.tape, h.output, h.size, fun i o hi hn => (h.block i (lt_of_blk hi) hn).trans hi⟩
theorem Kp.grown {row : Option Nat} (h : Kp S W W1) (hg : W1.grownBy W2 row) (hr : ∀ k, row = some k → W.heap.size ≤ k ∨ ∀ o, S k o) : Kp S W W2 :=
  ⟨hg.os.trans h.os, hg.tape.trans h.tape, hg.output.trans h.output, Nat.le_trans h.size hg.size, fun i o hi hn => by
    have h1 := h.block i o hi hn
    refine (hg.block i (lt_of_blk h1) fun e => ?_).trans h1
    rcases hr i e.symm with h2 | h2
    · have := lt_of_blk hi; omega
    · exact hn (h2 o)⟩
/-- A step whose own frame is told. -/
theorem Kp.then (h : Kp S W W1) (k : Kp S' W1 W2) (hs : ∀ i o, W.heap[i]? = some o → W1.heap[i]? = some o → S' i o → S i o) : Kp S W W2 :=
  ⟨k.os.trans h.os, k.tape.trans h.tape, k.output.trans h.output, Nat.le_trans h.size k.size, fun i o hi hn =>
    k.block i o (h.block i o hi hn) (fun x => hn (hs i o hi (h.block i o hi hn) x))⟩
theorem Kp.below {B : Nat} (h : Kp S W W1) (hB : B ≤ W.heap.size) (hs : ∀ k o, k < B → ¬ S k o) : Below B W W1 :=
  ⟨h.os, h.tape, h.output, h.size, fun k hk => by
    have hlt : k < W.heap.size := Nat.lt_of_lt_of_le hk hB
    have e : W.heap[k]? = some W.heap[k] := Array.getElem?_eq_getElem hlt
    rw [e]; exact h.block k _ e (hs k _ hk)⟩
theorem Kp.ofBelow {B : Nat} (h : Below B W W1) (hs : ∀ k o, B ≤ k → S k o) : Kp S W W1 :=
  ⟨h.os, h.tape, h.output, h.size, fun k o hk hn => (h.block k (Nat.lt_of_not_le fun x => hn (hs k o x))).trans hk⟩
theorem Kp.cell (h : Kp S W W1) {a : Addr} {v : Value} (hc : W.cell? a = some v) (hn : ∀ o, ¬ S a.block o) : W1.cell? a = some v := by
  have hlt := World.block_lt_of_cell? W a hc
  have e : W.heap[a.block]? = some W.heap[a.block] := Array.getElem?_eq_getElem hlt
  have := h.block a.block _ e (hn _)
  rw [World.cell?_of_block (w := W) (this.trans e.symm)]; exact hc
end

/-! ### a block known whole -/
theorem cell_blk {W : World} {b : Nat} {arr : Array Value} {T : TypeId} {fr : Nat × Nat} (h : W.heap[b]? = some (.cells arr T fr)) : ∀ k, W.cell? ⟨b, k, none⟩ = arr[k]? := fun k => by
  simp [World.cell?, h]
theorem frozen_blk {W : World} {b : Nat} {arr : Array Value} {T : TypeId} (h : W.heap[b]? = some (.cells arr T (0, 0))) : ∀ k, W.frozen? ⟨b, k, none⟩ = false := fun k => by
  simp [World.frozen?, h]
theorem blk_set {W : World} {b : Nat} {arr : Array Value} {T : TypeId} {fr : Nat × Nat} (h : W.heap[b]? = some (.cells arr T fr)) (k : Nat) (v : Value) :
    (W.setCell ⟨b, k, none⟩ v).heap[b]? = some (.cells (arr.setIfInBounds k v) T fr) := by
  simp [World.setCell, Array.getElem?_modify, h]
/-- A struct is stored whole: cell by cell. -/
def setAll (b : Nat) : World → Nat → List Value → World
  | W, _, [] => W
  | W, k, v :: vs => setAll b (W.setCell ⟨b, k, none⟩ v) (k + 1) vs
theorem setAll_blk {b : Nat} {T : TypeId} {fr : Nat × Nat} : ∀ (vs : List Value) (W : World) (k : Nat) (arr : Array Value), W.heap[b]? = some (.cells arr T fr) → arr.size = k + vs.length → (setAll b W k vs).heap[b]? = some (.cells (arr.toList.take k ++ vs).toArray T fr)
  | [], W, k, arr, h, hs => by
    simp at hs
    simp only [setAll, List.append_nil]
    rw [h, ← hs, List.take_of_length_le (by simp)]
  | v :: vs, W, k, arr, h, hs => by
    have ih := setAll_blk vs (W.setCell ⟨b, k, none⟩ v) (k + 1) (arr.setIfInBounds k v) (blk_set h k v) (by simp at hs ⊢; omega)
    simp only [setAll]
    rw [ih]
    congr 2
    simp only [List.length_cons] at hs
    apply Array.ext'
    have hk : k < arr.toList.length := by simp; omega
    simp only [Array.toList_setIfInBounds]
    rw [List.take_add_one, List.take_set, List.getElem?_set_self hk, List.set_eq_of_length_le (by simp; omega)]
    simp
theorem setAll_whole {b : Nat} {T : TypeId} {fr : Nat × Nat} {vs : List Value} {W : World} {arr : Array Value} (h : W.heap[b]? = some (.cells arr T fr)) (hs : arr.size = vs.length) : (setAll b W 0 vs).heap[b]? = some (.cells vs.toArray T fr) := by
  have := setAll_blk vs W 0 arr h (by omega)
  simpa using this
theorem setAll_kp {b : Nat} : ∀ (vs : List Value) (W : World) (k : Nat), Kp (On b) W (setAll b W k vs)
  | [], W, _ => Kp.refl _ _
  | v :: vs, W, k => ((Kp.refl (On b) W).setCell (a := ⟨b, k, none⟩) (.inr fun _ => rfl) v).trans (setAll_kp vs _ (k + 1))
theorem blk_set_ne {W : World} {b c : Nat} {o : Obj} (h : W.heap[b]? = some o) (hne : b ≠ c) (k : Nat) (v : Value) : (W.setCell ⟨c, k, none⟩ v).heap[b]? = some o := by
  rw [Below.heap_setCell _ _ _ _ hne]; exact h
theorem blk_new (W : World) (o : Obj) : (W.alloc o).heap[W.heap.size]? = some o := heap_alloc_new W o
theorem blk_alloc {W : World} {b : Nat} {x : Obj} (h : W.heap[b]? = some x) (o : Obj) : (W.alloc o).heap[b]? = some x := by exact (heap_alloc_old W o (lt_of_blk h)).trans h
theorem blk_drew {W : World} {b : Nat} {x : Obj} (h : W.heap[b]? = some x) : W.drew.heap[b]? = some x := h
theorem blk_drewN {W : World} {b : Nat} {x : Obj} (h : W.heap[b]? = some x) (n : Nat) : (W.drewN n).heap[b]? = some x := h
theorem blk_ne_of_ty {W : World} {b c : Nat} {x y : Array Value} {T T' : TypeId} {fr fr' : Nat × Nat} (h : W.heap[b]? = some (.cells x T fr)) (k : W.heap[c]? = some (.cells y T' fr')) (hne : T ≠ T') : b ≠ c := by
  rintro rfl
  rw [h] at k
  injection k with k
  injection k with _ k _
  exact hne k
def Obj.isTy (T : TypeId) : Obj → Prop | .cells _ t _ => t = T | _ => False

/-! ### what a slice reads as -/
/-- The cells cs lie at the slice's head, in a block below N. -/
def Rd (W : World) (N : Nat) (a : Option Addr) (cs : List Value) : Prop :=
  0 < cs.length → ∃ b o, a = some ⟨b, o, none⟩ ∧ b < N ∧ ∀ j u, cs[j]? = some u → W.cell? ⟨b, o + j, none⟩ = some u

def bt8 (b : UInt8) : Value := .int .u8 (b.toNat : Int)
abbrev bys (l : List UInt8) : List Value := l.map bt8

section
variable {S : Nat → Obj → Prop} {W W1 : World} {N N' : Nat} {a : Option Addr} {cs : List Value}
theorem Rd.nil (W : World) (N : Nat) (a : Option Addr) : Rd W N a [] := fun h => absurd h (Nat.lt_irrefl 0)
theorem Rd.mono (h : Rd W N a cs) (hN : N ≤ N') : Rd W N' a cs := fun hp => let ⟨b, o, e, hb, hc⟩ := h hp; ⟨b, o, e, by omega, hc⟩
theorem Rd.kp (h : Rd W N a cs) (k : Kp S W W1) (hs : ∀ b o, b < N → ¬ S b o) : Rd W1 N a cs := fun hp =>
  let ⟨b, o, e, hb, hc⟩ := h hp; ⟨b, o, e, hb, fun j u hu => k.cell (hc j u hu) (fun x => hs b x hb)⟩
theorem Rd.kpa (h : Rd W N a cs) (k : Kp S W W1) (hs : ∀ b o, a = some ⟨b, o, none⟩ → ∀ x, ¬ S b x) : Rd W1 N a cs := fun hp =>
  let ⟨b, o, e, hb, hc⟩ := h hp; ⟨b, o, e, hb, fun j u hu => k.cell (hc j u hu) (hs b o e)⟩
theorem Rd.below (h : Rd W N a cs) {B : Nat} (k : Below B W W1) (hB : N ≤ B) : Rd W1 N a cs := fun hp =>
  let ⟨b, o, e, hb, hc⟩ := h hp; ⟨b, o, e, hb, fun j u hu => (k.cell (p := ⟨b, o + j, none⟩) (show b < B by omega)).trans (hc j u hu)⟩
theorem Rd.at (h : Rd W N a cs) : ∀ j u, cs[j]? = some u → ∃ b o, a = some ⟨b, o, none⟩ ∧ b < N ∧ W.cell? ⟨b, o + j, none⟩ = some u := fun j u hu =>
  let ⟨b, o, e, hb, hc⟩ := h (by have := (List.getElem?_eq_some_iff.1 hu).1; omega); ⟨b, o, e, hb, hc j u hu⟩
theorem Rd.take (h : Rd W N a cs) (k : Nat) : Rd W N a (cs.take k) := fun hp =>
  let ⟨b, o, e, hb, hc⟩ := h (by simp at hp; omega); ⟨b, o, e, hb, fun j u hu => hc j u (by rw [List.getElem?_take] at hu; split at hu <;> simp_all)⟩
theorem Rd.alloc (h : Rd W N a cs) (o : Obj) : Rd (W.alloc o) N a cs := h.kp (S := Nn) ((Kp.refl _ _).alloc o) (fun _ _ _ x => x)
theorem Rd.drew (h : Rd W N a cs) : Rd W.drew N a cs := h
theorem Rd.drewN (h : Rd W N a cs) (n : Nat) : Rd (W.drewN n) N a cs := h
theorem Rd.setCell (h : Rd W N a cs) {p : Addr} (hp : N ≤ p.block) (v : Value) : Rd (W.setCell p v) N a cs :=
  h.kp (S := On p.block) ((Kp.refl _ _).setCell (.inr fun _ => rfl) v) (fun b o hb x => by simp only [On] at x; omega)
theorem addr_add (b o k : Nat) : (⟨b, o, none⟩ : Addr).add k = ⟨b, o + k, none⟩ := by simp [Addr.add]
/-- 'xs[l:h:m]' (h - l elements of it) as 'sliced' has it. -/
theorem Rd.sliced (h : Rd W N a cs) (l hi m s : Nat) (hl : l ≤ hi) (hm : hi ≤ m) (k : Nat) (hk : k = (hi - l) * s) :
    Rd W N (if m = l then a else a.map (·.add (l * s))) ((cs.drop (l * s)).take k) := by
  intro hp
  by_cases e : m = l
  · have h0 : hi - l = 0 := by omega
    rw [h0, Nat.zero_mul] at hk
    subst hk
    simp at hp
  · rw [if_neg e]
    have hlen : 0 < cs.length := by simp at hp; omega
    obtain ⟨b, o, rfl, hb, hc⟩ := h hlen
    refine ⟨b, o + l * s, by simp [addr_add], hb, fun j u hu => ?_⟩
    rw [List.getElem?_take] at hu
    split at hu
    · rw [List.getElem?_drop] at hu
      rw [Nat.add_assoc]
      exact hc _ u hu
    · cases hu
end

#print axioms Rd.sliced
end Go.Proofs.YtnfcjfbepaoimaaDoor
