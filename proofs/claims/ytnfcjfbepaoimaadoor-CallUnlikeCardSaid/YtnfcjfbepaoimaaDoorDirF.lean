/- Package dir: Find, After's search: package slices at entries. -/
import Derived.Test.YtnfcjfbepaoimaaDoorDirN
set_option linter.unusedVariables false
set_option linter.unusedSimpArgs false
namespace Go.Proofs.YtnfcjfbepaoimaaDoor
open Go.RowKit

/-- An entry's cells. -/
def Ent.cells (e : Ent) : List Value := [.int .u64 (e.cookie : Int), .int .u32 (e.ino : Int), .int .u32 (e.gen : Int), .string e.name]
abbrev Ent.val (e : Ent) : Value := .agg #[.int .u64 (e.cookie : Int), .int .u32 (e.ino : Int), .int .u32 (e.gen : Int), .string e.name]
def eCells (l : List Ent) : List Value := l.flatMap Ent.cells
theorem eCells_length (l : List Ent) : (eCells l).length = l.length * 4 := by
  induction l with
  | nil => rfl
  | cons e l ih => simp [eCells, Ent.cells] at *; omega
theorem eCells_append (l m : List Ent) : eCells (l ++ m) = eCells l ++ eCells m := by simp [eCells]
theorem eCells_at (l : List Ent) : ∀ (k j : Nat) (h : k < l.length), j < 4 → (eCells l)[k * 4 + j]? = (l[k]).cells[j]? := by
  induction l with
  | nil => intro k j h; simp at h
  | cons e l ih =>
    intro k j h hj
    have e1 : eCells (e :: l) = e.cells ++ eCells l := by simp [eCells]
    rw [e1]
    cases k with
    | zero =>
      rw [List.getElem?_append_left (by simp [Ent.cells]; omega)]
      simp
    | succ k =>
      rw [List.getElem?_append_right (by simp [Ent.cells]; omega)]
      have := ih k j (by simpa using h) hj
      rw [show (k + 1) * 4 + j - e.cells.length = k * 4 + j by simp [Ent.cells]; omega]
      simpa using this

theorem eRd {W : World} {N : Nat} {a : Option Addr} {l : List Ent} (h : Rd W N a (eCells l)) (k : Nat) (hk : k < l.length) :
    ∃ b o, a = some ⟨b, o, none⟩ ∧ b < N ∧ W.cell? ⟨b, o + k * 4, none⟩ = some (.int .u64 ((l[k]).cookie : Int)) ∧ W.cell? ⟨b, o + k * 4 + 1, none⟩ = some (.int .u32 ((l[k]).ino : Int)) ∧
      W.cell? ⟨b, o + k * 4 + 2, none⟩ = some (.int .u32 ((l[k]).gen : Int)) ∧ W.cell? ⟨b, o + k * 4 + 3, none⟩ = some (.string (l[k]).name) := by
  obtain ⟨b, o, e, hb, hc⟩ := h (by rw [eCells_length]; omega)
  have g : ∀ j, j < 4 → ∀ u, (l[k]).cells[j]? = some u → W.cell? ⟨b, o + k * 4 + j, none⟩ = some u := fun j hj u hu => by
    have := hc (k * 4 + j) u (by rw [eCells_at l k j hk hj]; exact hu)
    rwa [← Nat.add_assoc] at this
  exact ⟨b, o, e, hb, g 0 (by omega) _ rfl, g 1 (by omega) _ rfl, g 2 (by omega) _ rfl, g 3 (by omega) _ rfl⟩


theorem find1_any (W : World) (e : Ent) (nb : Nat) (name : ByteArray) (hn : W.cell? ⟨nb, 0, none⟩ = some (.string name)) :
    Calls Tryd.prog 79 #[e.val, .pointer (some ⟨nb, 0, none⟩)] W fun r W' => r = .returned (.bool (nmEq e.name name)) ∧ Kp Nn W W' := by
  have hlt := World.block_lt_of_cell? W _ hn
  unfold Ent.val
  go_enter Tryd.func79, Tryd.ntmps79
  go_wp2
  go_ret
  exact ⟨rfl, (Kp.refl _ _).alloc _⟩

theorem findI_none {l : List Ent} {name : ByteArray} (h : ∀ j (hj : j < l.length), nmEq (l[j]).name name = false) : findI l name = -1 := by
  unfold findI
  rw [List.findIdx?_eq_none_iff.2]
  intro x hx
  obtain ⟨j, hj, rfl⟩ := List.getElem_of_mem hx
  exact h j hj
theorem findI_some {l : List Ent} {name : ByteArray} {k : Nat} (hk : k < l.length) (h1 : nmEq (l[k]).name name = true) (h : ∀ j (hj : j < l.length), j < k → nmEq (l[j]).name name = false) : findI l name = (k : Int) := by
  unfold findI
  rw [List.findIdx?_eq_some_iff_getElem.2 ⟨hk, h1, fun j hj => by simp [h j (by omega) hj]⟩]

theorem findE_any (W : World) (N : Nat) (a : Option Addr) (c : Nat) (l : List Ent) (h : Rd W N a (eCells l)) (hl : l.length ≤ 4398046511104) (nb : Nat) (name : ByteArray) (hn : W.cell? ⟨nb, 0, none⟩ = some (.string name)) :
    Calls Tryd.prog 78 #[.slice a l.length c, .func (.func 79) #[] #[.pointer (some ⟨nb, 0, none⟩)]] W fun r W' => r = .returned (.int .i64 (findI l name)) ∧ Kp Nn W W' := by
  go_enter Tryd.func78, Tryd.ntmps78
  go_wp2_with fail
  go_loopw [8] (fun i Wr => ∃ k : Nat, k ≤ l.length ∧ i = .int .i64 k ∧ (∀ j (hj : j < l.length), j < k → nmEq (l[j]).name name = false) ∧ Kp Nn W Wr) (fun i _ => l.length - (intOf i).toNat)
  case atStart => exact ⟨0, Nat.zero_le _, rfl, fun j _ hj => absurd hj (Nat.not_lt_zero j), Kp.refl _ _⟩
  case round =>
    obtain ⟨k, hk, rfl, hz, hkp⟩ := hrel
    have hz := Hid.mk hz
    by_cases hlt : k < l.length
    · obtain ⟨b, o, rfl, hb, c0, c1, c2, c3⟩ := eRd (h.kp hkp (fun _ _ _ x => x)) k hlt
      have hn' := hkp.cell hn (fun _ x => x)
      have hkp := Hid.mk hkp
      generalize hen : l[k] = en at *
      cases hq : nmEq en.name name with
      | true =>
        go_wp2_with (go_at_call 79; refine (find1_any _ _ _ _ hn').mono ?_; rintro e W' ⟨rfl, hk2⟩; rw [hq]; have hk2 := Hid.mk (hkp.out.trans hk2))
        go_ret
        subst hen
        rw [findI_some hlt hq hz.out]
        exact ⟨rfl, hk2.out⟩
      | false =>
        go_wp2_with (go_at_call 79; refine (find1_any _ _ _ _ hn').mono ?_; rintro e W' ⟨rfl, hk2⟩; rw [hq]; have hk2 := Hid.mk (hkp.out.trans hk2))
        go_roundw
        case rel =>
          refine ⟨k + 1, by omega, by go_num, fun j hj hjk => ?_, hk2.out⟩
          by_cases hjk : j < k
          · exact hz.out j hj hjk
          · have : j = k := by omega
            subst this
            subst hen
            exact hq
        case measure => simp [intOf]; omega
    · have hkl : k = l.length := by omega
      have hfin := Hid.mk (findI_none (fun j hj => hz.out j hj (by omega)))
      have hkp := Hid.mk hkp
      clear hkl
      go_wp2_with fail
      go_ret
      rw [hfin.out]
      exact ⟨rfl, hkp.out⟩

theorem find_any (W : World) (N : Nat) (a : Option Addr) (c : Nat) (l : List Ent) (h : Rd W N a (eCells l)) (hN : N ≤ W.heap.size) (hl : l.length ≤ 4398046511104) (name : ByteArray) :
    Calls Tryd.prog 74 #[.slice a l.length c, .string name] W fun r W' => r = .returned (.int .i64 (findI l name)) ∧ Kp Nn W W' := by
  go_enter Tryd.func74, Tryd.ntmps74
  go_wp2_with fail
  refine (findE_any _ N a c l (h.alloc _) hl W.heap.size name (cell_blk (blk_new _ _) 0)).mono ?_
  rintro e W1 ⟨rfl, k1⟩
  have k2 := Hid.mk (((Kp.refl Nn W).alloc _).trans k1)
  clear k1 h
  go_wp2_with fail
  go_ret
  exact ⟨rfl, k2.out⟩
end Go.Proofs.YtnfcjfbepaoimaaDoor
