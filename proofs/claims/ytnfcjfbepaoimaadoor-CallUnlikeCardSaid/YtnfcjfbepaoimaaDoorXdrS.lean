/- Package xdr: many writes in a row. -/
import Derived.Test.YtnfcjfbepaoimaaDoorXdrV
set_option linter.unusedVariables false
set_option linter.unusedSimpArgs false
namespace Go.Proofs.YtnfcjfbepaoimaaDoor
open Go.RowKit

/-- A writer that was made behind W0 has put l; of what lay in W0 nothing has turned. -/
def PutS (W0 W : World) (wb : Nat) (l : List UInt8) : Prop := (∃ v, WV W wb W0.heap.size v l) ∧ Kp Nn W0 W
/-- What is neither the writer nor bytes lies as it lay. -/
def Kq (wb : Nat) (W W' : World) : Prop := W.heap.size ≤ W'.heap.size ∧ ∀ b o, W.heap[b]? = some o → b ≠ wb → ¬ Obj.isTy 5 o → W'.heap[b]? = some o
theorem Kq.refl (wb : Nat) (W : World) : Kq wb W W := ⟨Nat.le_refl _, fun _ _ h _ _ => h⟩
theorem Kq.trans {wb : Nat} {A B C : World} (h : Kq wb A B) (k : Kq wb B C) : Kq wb A C := ⟨Nat.le_trans h.1 k.1, fun b o ho hn ht => k.2 b o (h.2 b o ho hn ht) hn ht⟩
theorem Kq.ofNn {wb : Nat} {A B : World} (h : Kp Nn A B) : Kq wb A B := ⟨h.size, fun b o ho _ _ => h.block b o ho (fun x => x)⟩
theorem PutS.nn {W0 W W1 : World} {wb : Nat} {l : List UInt8} (h : PutS W0 W wb l) (k : Kp Nn W W1) : PutS W0 W1 wb l :=
  let ⟨⟨v, hv⟩, h0⟩ := h; ⟨⟨v, hv.kp k (fun _ x => x) (fun _ _ _ _ x => x)⟩, h0.trans k⟩
theorem PutS.lt {W0 W : World} {wb : Nat} {l : List UInt8} (h : PutS W0 W wb l) : wb < W.heap.size ∧ W0.heap.size ≤ wb := let ⟨⟨_, hv⟩, _⟩ := h; ⟨lt_of_blk hv.2.1, hv.1⟩
theorem PutS.step1 {W0 W : World} {wb : Nat} {l l1 : List UInt8} {v : Value} (hv : WV W wb W0.heap.size v l) (h0 : Kp Nn W0 W) {f : FuncId} {args : Array Value} (hc : Calls Tryd.prog f args W (PutP W wb W0.heap.size v l1)) :
    Calls Tryd.prog f args W fun r W' => r = .returned (.tuple #[]) ∧ PutS W0 W' wb l1 ∧ Kq wb W W' := by
  refine hc.mono ?_
  rintro e W' ⟨rfl, v', hv', k', _⟩
  have kw := hv.wide k'
  exact ⟨rfl, ⟨⟨v', hv'⟩, h0.then kw (fun i o hi _ x => by have := lt_of_blk hi; have := x.1; omega)⟩, kw.size, fun b o ho hn ht => kw.block b o ho (fun x => by rcases x.2 with h | h; exact hn h; exact ht h)⟩
theorem PutS.step {W0 W : World} {wb : Nat} {l l1 : List UInt8} (h : PutS W0 W wb l) {f : FuncId} {args : Array Value} (hc : ∀ v, WV W wb W0.heap.size v l → Calls Tryd.prog f args W (PutP W wb W0.heap.size v l1)) :
    Calls Tryd.prog f args W fun r W' => r = .returned (.tuple #[]) ∧ PutS W0 W' wb l1 ∧ Kq wb W W' := by
  obtain ⟨⟨v, hv⟩, h0⟩ := h
  exact PutS.step1 hv h0 (hc v hv)
/-- Where a source lies: in what lay in W0, or in a block that W has no more. -/
theorem PutS.apart {W0 W : World} {wb : Nat} {l : List UInt8} {v : Value} (hv : WV W wb W0.heap.size v l) {k : Nat} (hk : k < W0.heap.size) : k ≠ wb ∧ v.ownBlock ≠ some k :=
  ⟨by have := hv.1; omega, fun e => by have := (own_blk hv.2.2 e).1; omega⟩
theorem PutS.fresh {W0 W : World} {wb : Nat} {l : List UInt8} {v : Value} (hv : WV W wb W0.heap.size v l) {k : Nat} (hk : W.heap.size ≤ k) : k ≠ wb ∧ v.ownBlock ≠ some k :=
  ⟨by have := lt_of_blk hv.2.1; omega, fun e => by obtain ⟨_, cur, hg⟩ := own_blk hv.2.2 e; have := lt_of_blk hg; omega⟩

section
variable {W0 W : World} {wb : Nat} {l : List UInt8} (h : PutS W0 W wb l)
include h
theorem sU32 (hl : l.length ≤ 17592186044416) (x : Nat) (hx : x < 4294967296) : Calls Tryd.prog 22 #[.pointer (some ⟨wb, 0, none⟩), .int .u32 (x : Int)] W fun r W' => r = .returned (.tuple #[]) ∧ PutS W0 W' wb (l ++ pU32 x) ∧ Kq wb W W' :=
  h.step fun v hv => wU32_any W wb _ l v hv (by omega) x hx
theorem sU64 (hl : l.length ≤ 17592186044416) (x : Nat) (hx : x < 18446744073709551616) : Calls Tryd.prog 24 #[.pointer (some ⟨wb, 0, none⟩), .int .u64 (x : Int)] W fun r W' => r = .returned (.tuple #[]) ∧ PutS W0 W' wb (l ++ pU64 x) ∧ Kq wb W W' :=
  h.step fun v hv => wU64_any W wb _ l v hv (by omega) x hx
theorem sBool (hl : l.length ≤ 17592186044416) (x : Bool) : Calls Tryd.prog 26 #[.pointer (some ⟨wb, 0, none⟩), .bool x] W fun r W' => r = .returned (.tuple #[]) ∧ PutS W0 W' wb (l ++ pBool x) ∧ Kq wb W W' :=
  h.step fun v hv => wBool_any W wb _ l v hv (by omega) x
/-- Bytes that lay in W0. -/
theorem sOpaque (hl : l.length ≤ 17592186044416) {N c : Nat} {a : Option Addr} {b : List UInt8} (hr : Rd W0 N a (bys b)) (hN : N ≤ W0.heap.size) (hb : b.length ≤ 17592186044416) :
    Calls Tryd.prog 25 #[.pointer (some ⟨wb, 0, none⟩), .slice a b.length c] W fun r W' => r = .returned (.tuple #[]) ∧ PutS W0 W' wb (l ++ pOpaque b) ∧ Kq wb W W' := by
  have hr' : Rd W N a (bys b) := hr.kp h.2 (fun _ _ _ x => x)
  exact h.step fun v hv => wOpaque_any W wb _ l v hv hl N c _ b hr' hb (fun hp k' o' e => by
    obtain ⟨k, o, e2, hk, _⟩ := hr (by simpa using hp)
    rw [e] at e2
    cases e2
    exact PutS.apart hv (by omega))
/-- .. of a string that is turned to bytes there. -/
theorem sStr {Wb : World} (k : Kp Nn W Wb) (hl : l.length ≤ 17592186044416) (c : Nat) (s : ByteArray) (hr : Rd Wb (W.heap.size + 1) (some ⟨W.heap.size, 0, none⟩) (bys s.data.toList)) (hb : s.size ≤ 17592186044416) :
    Calls Tryd.prog 25 #[.pointer (some ⟨wb, 0, none⟩), .slice (some ⟨W.heap.size, 0, none⟩) s.size c] Wb fun r W' => r = .returned (.tuple #[]) ∧ PutS W0 W' wb (l ++ pOpaque s.data.toList) ∧ Kq wb W W' := by
  obtain ⟨⟨v, hv⟩, h0⟩ := h
  have hv' : WV Wb wb W0.heap.size v l := hv.kp k (fun _ x => x) (fun _ _ _ _ x => x)
  refine (PutS.step1 hv' (h0.trans k) (wOpaque_any Wb wb _ l v hv' hl (W.heap.size + 1) c _ s.data.toList hr (by simpa using hb) (fun hp k' o' e => ?_))).mono ?_
  · cases e; exact PutS.fresh hv (Nat.le_refl _)
  · rintro e W' ⟨rfl, h1, h2⟩
    exact ⟨rfl, h1, (Kq.ofNn k).trans h2⟩
/-- All that was put. -/
theorem sOut (hl : l.length ≤ 35184372088832) : Calls Tryd.prog 27 #[.pointer (some ⟨wb, 0, none⟩)] W (OutB Nn W l) := by
  obtain ⟨⟨v, hv⟩, h0⟩ := h
  exact out_any W wb _ l v hv hl
end
theorem sNew (W : World) : Calls Tryd.prog 21 #[] W fun r W' => ∃ wb, r = .returned (.pointer (some ⟨wb, 0, none⟩)) ∧ PutS W W' wb [] ∧ Kp Nn W W' := by
  refine (newWriter_any W).mono ?_
  rintro e W' ⟨wb, rfl, _, ⟨v, hv⟩, k⟩
  exact ⟨wb, rfl, ⟨⟨v, hv⟩, k⟩, k⟩
end Go.Proofs.YtnfcjfbepaoimaaDoor
