/- Package call: what reading a struct asks of bytes that were read ahead. -/
import Derived.Test.YtnfcjfbepaoimaaDoorCallC
import Derived.Test.YtnfcjfbepaoimaaDoorDirG
set_option linter.unusedVariables false
set_option linter.unusedSimpArgs false
namespace Go.Proofs.YtnfcjfbepaoimaaDoor
open Go.RowKit

/-- No byte among them. -/
def noU8 (vs : List Value) : Bool := vs.all (fun v => match v with | .int .u8 _ => false | _ => true)
theorem Rd.apart {W W1 : World} {N b : Nat} {a : Option Addr} {l : List UInt8} {arr : Array Value} {T : TypeId} {fr : Nat × Nat} (h : Rd W N a (bys l)) (hb : W.heap[b]? = some (.cells arr T fr)) (hno : noU8 arr.toList = true) (k : Kp (On b) W W1) : Rd W1 N a (bys l) := by
  intro hp
  obtain ⟨b', o, rfl, hlt, hc⟩ := h hp
  have hne : b' ≠ b := by
    rintro rfl
    have hl : 0 < l.length := by simpa using hp
    have := hc 0 (bt8 l[0]) (by simp [List.getElem?_eq_getElem hl])
    rw [cell_blk hb] at this
    have hm : bt8 l[0] ∈ arr.toList := by
      rw [← Array.getElem?_toList] at this
      exact List.mem_of_getElem? this
    have := List.all_eq_true.1 hno _ hm
    simp [bt8] at this
  exact ⟨b', o, rfl, hlt, fun j u hu => k.cell (hc j u hu) (fun _ x => hne x)⟩
theorem Rd.set_apart {W : World} {N b j : Nat} {a : Option Addr} {l : List UInt8} {arr : Array Value} {T : TypeId} {fr : Nat × Nat} (h : Rd W N a (bys l)) (hb : W.heap[b]? = some (.cells arr T fr)) (hno : noU8 arr.toList = true) (v : Value) : Rd (W.setCell ⟨b, j, none⟩ v) N a (bys l) :=
  h.apart hb hno ((Kp.refl _ _).setCell (.inr fun _ => rfl) v)
theorem GetS.rd {W0 W W' : World} {rb N : Nat} {s : RS} {a : Option Addr} {l : List UInt8} (hs : GetS W0 W rb s) (h : Rd W N a (bys l)) (k : Kp (On rb) W W') : Rd W' N a (bys l) := by
  obtain ⟨⟨_, _, _, _, _, _, hb, _⟩, _, _⟩ := hs
  exact h.apart hb rfl k
theorem rOpaque_len (s : RS) (m : Nat) : (rOpaque s m).1.length ≤ m := by
  unfold rOpaque
  split
  · simp
  · split
    · simp
    · rename_i h
      split
      · simp
      · split
        · simp
        · simp; omega
end Go.Proofs.YtnfcjfbepaoimaaDoor
