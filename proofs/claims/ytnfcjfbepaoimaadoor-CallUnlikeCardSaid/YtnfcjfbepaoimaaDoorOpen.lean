/- What comes in, read as a value: numbers, strings, bytes, entries, calls, replies. -/
import Derived.Test.YtnfcjfbepaoimaaDoorCallY
import Derived.WalkKit
import Derived.ProofKit
import Derived.OpenShut
import Derived.ChangeSlices
import Derived.Deep.Slices
import Derived.SizedLaws
set_option linter.unusedVariables false
set_option linter.unusedSimpArgs false
namespace Go.Proofs.YtnfcjfbepaoimaaDoor
open Go.ChangeShapes Go.WideShapes Go.ChangeAt Go.RowKit

theorem spot_none {w : World} {a : Addr} {v : Value} (h : w.cell? a = some v) : a.spot = none := by
  unfold World.cell? at h
  split at h
  · split at h
    · cases h
    · rename_i h1; simpa using h1
  · cases h

theorem len2 {α : Type} {l : List α} (h : l.length = 2) : ∃ c0 c1 : α, l = [c0, c1] := by
  match l, h with
  | [c0, c1], _ => exact ⟨c0, c1, rfl⟩
theorem len4 {α : Type} {l : List α} (h : l.length = 4) : ∃ c0 c1 c2 c3 : α, l = [c0, c1, c2, c3] := by
  match l, h with
  | [c0, c1, c2, c3], _ => exact ⟨c0, c1, c2, c3, rfl⟩
theorem len5 {α : Type} {l : List α} (h : l.length = 5) : ∃ c0 c1 c2 c3 c4 : α, l = [c0, c1, c2, c3, c4] := by
  match l, h with
  | [c0, c1, c2, c3, c4], _ => exact ⟨c0, c1, c2, c3, c4, rfl⟩
theorem len14 {α : Type} {l : List α} (h : l.length = 14) : ∃ c0 c1 c2 c3 c4 c5 c6 c7 c8 c9 c10 c11 c12 c13 : α, l = [c0, c1, c2, c3, c4, c5, c6, c7, c8, c9, c10, c11, c12, c13] := by
  match l, h with
  | [c0, c1, c2, c3, c4, c5, c6, c7, c8, c9, c10, c11, c12, c13], _ => exact ⟨c0, c1, c2, c3, c4, c5, c6, c7, c8, c9, c10, c11, c12, c13, rfl⟩
theorem len15 {α : Type} {l : List α} (h : l.length = 15) : ∃ c0 c1 c2 c3 c4 c5 c6 c7 c8 c9 c10 c11 c12 c13 c14 : α, l = [c0, c1, c2, c3, c4, c5, c6, c7, c8, c9, c10, c11, c12, c13, c14] := by
  match l, h with
  | [c0, c1, c2, c3, c4, c5, c6, c7, c8, c9, c10, c11, c12, c13, c14], _ => exact ⟨c0, c1, c2, c3, c4, c5, c6, c7, c8, c9, c10, c11, c12, c13, c14, rfl⟩
section
variable {H : Type} {enc : TypeId × Value → H} {w : World} {base : Nat} {spare : Nat → Bool} {held : Bool} {n : Nat} {t : TypeId} {cs : List Value} {x : DataW H × List MemPlace}

theorem opn_u32 (ht : Tryd.prog.underlying t = some (.int .u32)) (h : DataW.trod enc Tryd.prog w base spare held n t cs = some x) : ∃ m : Nat, m < 4294967296 ∧ cs = [.int .u32 (m : Int)] := by
  obtain ⟨k, rfl, rfl, hw⟩ := DataW.trod_int ht h
  have := bounds_u32 hw
  exact ⟨k.toNat, by omega, by rw [Int.toNat_of_nonneg this.1]⟩
theorem opn_u64 (ht : Tryd.prog.underlying t = some (.int .u64)) (h : DataW.trod enc Tryd.prog w base spare held n t cs = some x) : ∃ m : Nat, m < 18446744073709551616 ∧ cs = [.int .u64 (m : Int)] := by
  obtain ⟨k, rfl, rfl, hw⟩ := DataW.trod_int ht h
  have := bounds_u64 hw
  exact ⟨k.toNat, by omega, by rw [Int.toNat_of_nonneg this.1]⟩
theorem opn_i64 (ht : Tryd.prog.underlying t = some (.int .i64)) (h : DataW.trod enc Tryd.prog w base spare held n t cs = some x) : ∃ m : Int, (Lit.int .i64 m).wf = true ∧ cs = [.int .i64 m] := by
  obtain ⟨k, rfl, rfl, hw⟩ := DataW.trod_int ht h
  exact ⟨k, hw, rfl⟩
theorem opn_bool (ht : Tryd.prog.underlying t = some .bool) (h : DataW.trod enc Tryd.prog w base spare held n t cs = some x) : ∃ b : Bool, cs = [.bool b] := by
  obtain ⟨b, rfl, rfl⟩ := DataW.trod_bool ht h
  exact ⟨b, rfl⟩
theorem opn_str (ht : Tryd.prog.underlying t = some .string) (h : DataW.trod enc Tryd.prog w base spare held n t cs = some x) (hz : ∀ k ∈ x.1.weights Tryd.prog t, k ≤ reachBytes) :
    ∃ s : ByteArray, s.size ≤ reachBytes ∧ cs = [.string s] := by
  obtain ⟨s, rfl, rfl, hw⟩ := DataW.trod_string ht h
  refine ⟨s, ?_, rfl⟩
  have := hz s.data.toList.length (by simp [DataW.weights])
  simpa using this
theorem bytes_u8 : Tryd.prog.bytesOf 5 = 1 := by kernel_rfl
theorem bytes_ent : Tryd.prog.bytesOf 78 = 32 := by kernel_rfl
theorem opn_bytes (ht : Tryd.prog.underlying t = some (.slice 5)) (h : DataW.trod enc Tryd.prog w base spare held n t cs = some x) (hz : ∀ k ∈ x.1.weights Tryd.prog t, k ≤ reachBytes) :
    ∃ (a : Option Addr) (l : List UInt8) (q : Nat), l.length ≤ reachBytes ∧ l.length ≤ q ∧ cs = [.slice a l.length q] ∧ Rd w w.heap.size a (bys l) := by
  rcases open_ints ht Tryd.underlying5 (by kernel_rfl) h with ⟨rfl, rfl⟩ | ⟨a, len, cap, zs, rfl, hb, hl, hm, hzl, rfl, hc, hw⟩
  · exact ⟨none, [], 0, by simp, by simp, rfl, Rd.nil _ _ _⟩
  · have hlen : len ≤ zs.length := by rw [hzl]; split <;> omega
    have hlb : (zs.take len).length = len := by simp; omega
    have hbys : bys ((zs.take len).map fun z => UInt8.ofNat z.toNat) = (zs.take len).map fun z => Value.int .u8 z := by
      simp only [bys, List.map_map]
      refine List.map_congr_left fun z hz => ?_
      have := bounds_u8 (hw z (List.mem_of_mem_take hz))
      have e : (((UInt8.ofNat z.toNat).toNat : Nat) : Int) = z := by rw [UInt8.toNat_ofNat']; omega
      exact congrArg (Value.int .u8) e
    refine ⟨some a, (zs.take len).map fun z => UInt8.ofNat z.toNat, cap, ?_, by simp; omega, by simp [hlb]; omega, fun hp => ?_⟩
    · have := hz (((lits .u8 (zs.take len) : List (DataW H)).length + (lits .u8 (zs.drop len) : List (DataW H)).length) * Tryd.prog.bytesOf 5) (by
        simp only [DataW.weights, ht]
        exact List.mem_cons_self)
      rw [bytes_u8] at this
      simp [lits] at this ⊢
      omega
    · rw [hbys] at hp ⊢
      have h0 : 0 < len := by rw [List.length_map, hlb] at hp; exact hp
      have c0 := hc 0 (by omega)
      have hs := spot_none c0
      have e0 : a.add 0 = a := by simp [Addr.add]
      rw [e0] at hs c0
      obtain ⟨b, o, sp⟩ := a
      simp only at hs
      subst hs
      refine ⟨b, o, rfl, World.block_lt_of_cell? w _ c0, fun j u hu => ?_⟩
      have hj : j < len := by
        have := (List.getElem?_eq_some_iff.1 hu).1
        rw [List.length_map, hlb] at this
        exact this
      have := hc j (by omega)
      rw [addr_add] at this
      rw [this]
      rw [List.getElem?_map, List.getElem?_take, if_pos hj, List.getElem?_eq_getElem (by omega)] at hu
      simp at hu
      rw [← hu, List.getD_eq_getElem?_getD, List.getElem?_eq_getElem (by omega)]
      rfl

/-- A struct's fields. -/
theorem opn_struct {fs : Array Field} (ht : Tryd.prog.underlying t = some (.struct fs)) (h : DataW.trod enc Tryd.prog w base spare held n t cs = some x) (hz : ∀ k ∈ x.1.weights Tryd.prog t, k ≤ reachBytes) :
    cs.length = Tryd.prog.cellsOf t ∧ ∃ m, ∀ (i : Nat) (f : Field), fs[i]? = some f → ∀ (ty : TypeId) (off k : Nat), f.type = ty → f.offset = off → Tryd.prog.cellsOf ty = k →
      ∃ y, DataW.trod enc Tryd.prog w base spare held m ty ((cs.drop off).take k) = some y ∧ ∀ k ∈ y.1.weights Tryd.prog ty, k ≤ reachBytes := by
  obtain ⟨xs, m, rfl, rfl, hl, hxs, hf⟩ := DataW.trod_struct ht h
  refine ⟨hl, m, fun i f hi ty off k e1 e2 e3 => ?_⟩
  subst e1; subst e2; subst e3
  have hlt : i < xs.length := by rw [hxs]; exact (Array.getElem?_eq_some_iff.1 hi).1
  have h1 := hf i f hi
  rw [List.getElem?_eq_getElem hlt] at h1
  refine ⟨xs[i], h1, fun k hk => hz k ?_⟩
  simp only [DataW.weights, ht]
  refine DataW.weights_mem_each (j := i) (t := f.type) (d := (xs[i]).1) ?_ ?_ k hk
  · rw [List.getElem?_map, Array.getElem?_toList, hi]; rfl
  · rw [List.getElem?_map, List.getElem?_eq_getElem hlt]; rfl

theorem cells_u32 : Tryd.prog.cellsOf 22 = 1 := by kernel_rfl
theorem cells_u64 : Tryd.prog.cellsOf 26 = 1 := by kernel_rfl
theorem cells_str : Tryd.prog.cellsOf 9 = 1 := by kernel_rfl
theorem cells_bs : Tryd.prog.cellsOf 29 = 1 := by kernel_rfl
theorem cells_es : Tryd.prog.cellsOf 30 = 1 := by kernel_rfl
theorem cells_bool : Tryd.prog.cellsOf 4 = 1 := by kernel_rfl
theorem cells_errno : Tryd.prog.cellsOf 23 = 1 := by kernel_rfl
theorem cells_hdl : Tryd.prog.cellsOf 25 = 2 := by kernel_rfl
theorem cells_attr : Tryd.prog.cellsOf 28 = 5 := by kernel_rfl
theorem cells_call : Tryd.prog.cellsOf 50 = 14 := by kernel_rfl
theorem cells_reply : Tryd.prog.cellsOf 32 = 15 := by kernel_rfl
theorem cells_ent : Tryd.prog.cellsOf 78 = 4 := by kernel_rfl

theorem opn_hdl (h : DataW.trod enc Tryd.prog w base spare held n 25 cs = some x) (hz : ∀ k ∈ x.1.weights Tryd.prog 25, k ≤ reachBytes) :
    ∃ i g : Nat, i < 4294967296 ∧ g < 4294967296 ∧ cs = [.int .u32 (i : Int), .int .u32 (g : Int)] := by
  obtain ⟨hl, m, hf⟩ := opn_struct Tryd.underlying25 h hz
  rw [cells_hdl] at hl
  obtain ⟨c0, c1, rfl⟩ := len2 hl
  obtain ⟨y0, h0, z0⟩ := hf 0 _ rfl 22 0 1 rfl rfl cells_u32
  obtain ⟨y1, h1, z1⟩ := hf 1 _ rfl 22 1 1 rfl rfl cells_u32
  obtain ⟨i, hi, e0⟩ := opn_u32 Tryd.underlying22 h0
  obtain ⟨g, hg, e1⟩ := opn_u32 Tryd.underlying22 h1
  simp at e0 e1
  subst e0; subst e1
  exact ⟨i, g, hi, hg, rfl⟩

theorem opn_call (h : DataW.trod enc Tryd.prog w base spare held n 50 cs = some x) (hz : ∀ k ∈ x.1.weights Tryd.prog 50, k ≤ reachBytes) :
    ∃ (c : CallV) (a : Option Addr) (q : Nat), cs = (c.cells a q).toList ∧ c.ok ∧ c.data.length ≤ q ∧ Rd w w.heap.size a (bys c.data) ∧ c.name.size ≤ reachBytes ∧ c.toName.size ≤ reachBytes ∧ c.data.length ≤ reachBytes := by
  obtain ⟨hl, m, hf⟩ := opn_struct Tryd.underlying50 h hz
  rw [cells_call] at hl
  obtain ⟨c0, c1, c2, c3, c4, c5, c6, c7, c8, c9, c10, c11, c12, c13, rfl⟩ := len14 hl
  obtain ⟨y0, h0, z0⟩ := hf 0 _ rfl 22 0 1 rfl rfl cells_u32
  obtain ⟨y1, h1, z1⟩ := hf 1 _ rfl 22 1 1 rfl rfl cells_u32
  obtain ⟨y2, h2, z2⟩ := hf 2 _ rfl 22 2 1 rfl rfl cells_u32
  obtain ⟨y3, h3, z3⟩ := hf 3 _ rfl 25 3 2 rfl rfl cells_hdl
  obtain ⟨y4, h4, z4⟩ := hf 4 _ rfl 9 5 1 rfl rfl cells_str
  obtain ⟨y5, h5, z5⟩ := hf 5 _ rfl 25 6 2 rfl rfl cells_hdl
  obtain ⟨y6, h6, z6⟩ := hf 6 _ rfl 9 8 1 rfl rfl cells_str
  obtain ⟨y7, h7, z7⟩ := hf 7 _ rfl 26 9 1 rfl rfl cells_u64
  obtain ⟨y8, h8, z8⟩ := hf 8 _ rfl 26 10 1 rfl rfl cells_u64
  obtain ⟨y9, h9, z9⟩ := hf 9 _ rfl 22 11 1 rfl rfl cells_u32
  obtain ⟨y10, h10, z10⟩ := hf 10 _ rfl 22 12 1 rfl rfl cells_u32
  obtain ⟨y11, h11, z11⟩ := hf 11 _ rfl 29 13 1 rfl rfl cells_bs
  obtain ⟨m0, b0, e0⟩ := opn_u32 Tryd.underlying22 h0
  obtain ⟨m1, b1, e1⟩ := opn_u32 Tryd.underlying22 h1
  obtain ⟨m2, b2, e2⟩ := opn_u32 Tryd.underlying22 h2
  obtain ⟨m3, g3, b3, d3, e3⟩ := opn_hdl h3 z3
  obtain ⟨m4, b4, e4⟩ := opn_str Tryd.underlying9 h4 z4
  obtain ⟨m5, g5, b5, d5, e5⟩ := opn_hdl h5 z5
  obtain ⟨m6, b6, e6⟩ := opn_str Tryd.underlying9 h6 z6
  obtain ⟨m7, b7, e7⟩ := opn_u64 Tryd.underlying26 h7
  obtain ⟨m8, b8, e8⟩ := opn_u64 Tryd.underlying26 h8
  obtain ⟨m9, b9, e9⟩ := opn_u32 Tryd.underlying22 h9
  obtain ⟨m10, b10, e10⟩ := opn_u32 Tryd.underlying22 h10
  obtain ⟨a, l, q, b11, d11, e11, r11⟩ := opn_bytes Tryd.underlying29 h11 z11
  simp at e0 e1 e2 e3 e4 e5 e6 e7 e8 e9 e10 e11
  obtain ⟨e3, e3'⟩ := e3
  obtain ⟨e5, e5'⟩ := e5
  subst e0 e1 e2 e3 e3' e4 e5 e5' e6 e7 e8 e9 e10 e11
  exact ⟨⟨m0, m1, m2, m3, g3, m4, m5, g5, m6, m7, m8, m9, m10, l⟩, a, q, rfl, ⟨b0, b1, b2, b3, d3, b5, d5, b7, b8, b9, b10⟩, d11, r11, b4, b6, b11⟩

theorem opn_ent (h : DataW.trod enc Tryd.prog w base spare held n 78 cs = some x) (hz : ∀ k ∈ x.1.weights Tryd.prog 78, k ≤ reachBytes) :
    ∃ e : Ent, cs = e.cells ∧ e.ok := by
  obtain ⟨hl, m, hf⟩ := opn_struct Tryd.underlying78 h hz
  rw [cells_ent] at hl
  obtain ⟨c0, c1, c2, c3, rfl⟩ := len4 hl
  obtain ⟨y0, h0, z0⟩ := hf 0 _ rfl 26 0 1 rfl rfl cells_u64
  obtain ⟨y1, h1, z1⟩ := hf 1 _ rfl 25 1 2 rfl rfl cells_hdl
  obtain ⟨y2, h2, z2⟩ := hf 2 _ rfl 9 3 1 rfl rfl cells_str
  obtain ⟨m0, b0, e0⟩ := opn_u64 Tryd.underlying26 h0
  obtain ⟨m1, g1, b1, d1, e1⟩ := opn_hdl h1 z1
  obtain ⟨m2, b2, e2⟩ := opn_str Tryd.underlying9 h2 z2
  simp at e0 e1 e2
  obtain ⟨e1, e1'⟩ := e1
  subst e0 e1 e1' e2
  exact ⟨⟨m0, m1, g1, m2⟩, rfl, b0, b1, d1⟩
theorem weights_all {P : Program} {e : TypeId} : ∀ {ds : List (DataW H)} {d : DataW H}, d ∈ ds → ∀ k ∈ d.weights P e, k ∈ DataW.weightsAll P e ds
  | d0 :: ds, d, hd, k, hk => by
    simp only [DataW.weightsAll, List.mem_append]
    rcases List.mem_cons.1 hd with rfl | hd
    · exact .inl hk
    · exact .inr (weights_all hd k hk)
  | [], _, hd, _, _ => by simp at hd
theorem eCells_ext : ∀ (len : Nat) (f : Nat → Ent), eCells ((List.range len).map f) = (List.range len).flatMap fun i => (f i).cells := fun len f => by
  simp [eCells, List.flatMap_map]
theorem opn_ents (h : DataW.trod enc Tryd.prog w base spare held n 30 cs = some x) (hz : ∀ k ∈ x.1.weights Tryd.prog 30, k ≤ reachBytes) :
    ∃ (a : Option Addr) (l : List Ent) (q : Nat), l.length * 32 ≤ reachBytes ∧ l.length ≤ q ∧ cs = [.slice a l.length q] ∧ Rd w w.heap.size a (eCells l) ∧ ∀ e ∈ l, e.ok := by
  rcases Go.Deep.open_slice Tryd.underlying30 h with ⟨rfl, rfl⟩ | ⟨a, len, cap, m, n', D, Pl, rfl, hb, hl, hm, hmm, rfl, hc⟩
  · exact ⟨none, [], 0, by simp, by simp, rfl, Rd.nil _ _ _, by simp⟩
  · have hlm : len ≤ m := by rw [hmm]; split <;> omega
    have hel : ∀ i, ∃ e : Ent, i < len → (∀ j u, e.cells[j]? = some u → w.cell? (a.add (i * 4 + j)) = some u) ∧ e.ok := by
      intro i
      by_cases hi : i < len
      · obtain ⟨cs', h1, h2⟩ := hc i (by omega)
        obtain ⟨e, rfl, ho⟩ := opn_ent h2 (fun k hk => hz k (by
          simp only [DataW.weights, Tryd.underlying30]
          exact List.mem_cons_of_mem _ (List.mem_append_left _ (weights_all (List.mem_map.2 ⟨i, by simpa using hi, rfl⟩) k hk))))
        obtain ⟨_, hlen, hat⟩ := World.cells?_some h1
        rw [cells_ent] at hlen hat h1
        refine ⟨e, fun _ => ⟨fun j u hu => ?_, ho⟩⟩
        have hj : j < 4 := by have := (List.getElem?_eq_some_iff.1 hu).1; rw [hlen] at this; exact this
        have := hat j hj
        rw [hu] at this
        rw [← this]
        congr 1
        unfold Addr.add
        by_cases h0 : i * 4 = 0
        · simp [h0]
        · by_cases h1 : j = 0
          · simp [h0, h1]
          · have : ¬ i * 4 + j = 0 := by omega
            simp [h0, h1, this, Nat.add_assoc]
      · exact ⟨⟨0, 0, 0, ⟨#[]⟩⟩, fun h => absurd h hi⟩
    have hel' := fun i => Classical.choose_spec (hel i)
    let f : Nat → Ent := fun i => Classical.choose (hel i)
    refine ⟨some a, (List.range len).map f, cap, ?_, by simp; omega, by simp, fun hp => ?_, fun e he => ?_⟩
    · have := hz ((((List.range len).map D).length + ((List.range (m - len)).map fun j => D (len + j)).length) * Tryd.prog.bytesOf 78) (by
        simp only [DataW.weights, Tryd.underlying30]
        exact List.mem_cons_self)
      rw [bytes_ent] at this
      simp at this ⊢
      omega
    · have h0 : 0 < len := by
        rcases Nat.eq_zero_or_pos len with h0 | h0
        · subst h0; simp [eCells] at hp
        · exact h0
      have c0 := (hel' 0 h0).1 0 _ rfl
      have e0 : a.add (0 * 4 + 0) = a := by simp [Addr.add]
      rw [e0] at c0
      have hs := spot_none c0
      have hblk := World.block_lt_of_cell? w _ c0
      obtain ⟨b, o, sp⟩ := a
      simp only at hs
      subst hs
      refine ⟨b, o, rfl, hblk, fun j u hu => ?_⟩
      have hjl : j < len * 4 := by
        have := (List.getElem?_eq_some_iff.1 hu).1
        rw [eCells_length] at this
        simpa using this
      have hq : j / 4 < len := by omega
      have ej : j = j / 4 * 4 + j % 4 := by omega
      rw [ej] at hu
      rw [eCells_at _ (j / 4) (j % 4) (by simpa using hq) (by omega)] at hu
      simp only [List.getElem_map, List.getElem_range] at hu
      have := (hel' (j / 4) hq).1 (j % 4) u hu
      rw [addr_add, ← ej] at this
      exact this
    · obtain ⟨i, hi, rfl⟩ := List.mem_map.1 he
      exact (hel' i (by simpa using hi)).2

theorem opn_attr (h : DataW.trod enc Tryd.prog w base spare held n 28 cs = some x) (hz : ∀ k ∈ x.1.weights Tryd.prog 28, k ≤ reachBytes) :
    ∃ a b c d e : Nat, (a < 4294967296 ∧ b < 4294967296 ∧ c < 4294967296 ∧ d < 4294967296 ∧ e < 18446744073709551616) ∧ cs = [.int .u32 (a : Int), .int .u32 (b : Int), .int .u32 (c : Int), .int .u32 (d : Int), .int .u64 (e : Int)] := by
  obtain ⟨hl, m, hf⟩ := opn_struct Tryd.underlying28 h hz
  rw [cells_attr] at hl
  obtain ⟨c0, c1, c2, c3, c4, rfl⟩ := len5 hl
  obtain ⟨y0, h0, z0⟩ := hf 0 _ rfl 22 0 1 rfl rfl cells_u32
  obtain ⟨y1, h1, z1⟩ := hf 1 _ rfl 22 1 1 rfl rfl cells_u32
  obtain ⟨y2, h2, z2⟩ := hf 2 _ rfl 22 2 1 rfl rfl cells_u32
  obtain ⟨y3, h3, z3⟩ := hf 3 _ rfl 22 3 1 rfl rfl cells_u32
  obtain ⟨y4, h4, z4⟩ := hf 4 _ rfl 26 4 1 rfl rfl cells_u64
  obtain ⟨m0, b0, e0⟩ := opn_u32 Tryd.underlying22 h0
  obtain ⟨m1, b1, e1⟩ := opn_u32 Tryd.underlying22 h1
  obtain ⟨m2, b2, e2⟩ := opn_u32 Tryd.underlying22 h2
  obtain ⟨m3, b3, e3⟩ := opn_u32 Tryd.underlying22 h3
  obtain ⟨m4, b4, e4⟩ := opn_u64 Tryd.underlying26 h4
  simp at e0 e1 e2 e3 e4
  subst e0 e1 e2 e3 e4
  exact ⟨m0, m1, m2, m3, m4, ⟨b0, b1, b2, b3, b4⟩, rfl⟩

theorem opn_reply (h : DataW.trod enc Tryd.prog w base spare held n 32 cs = some x) (hz : ∀ k ∈ x.1.weights Tryd.prog 32, k ≤ reachBytes) :
    ∃ (c : ReplyV) (a : Option Addr) (q : Nat) (a2 : Option Addr) (q2 : Nat), cs = (c.cells a q a2 q2).toList ∧ c.ok ∧ c.data.length ≤ q ∧ c.entries.length ≤ q2 ∧ Rd w w.heap.size a (bys c.data) ∧ Rd w w.heap.size a2 (eCells c.entries) ∧
      c.data.length ≤ reachBytes ∧ c.entries.length * 32 ≤ reachBytes ∧ (Lit.int .i64 c.status).wf = true := by
  obtain ⟨hl, m, hf⟩ := opn_struct Tryd.underlying32 h hz
  rw [cells_reply] at hl
  obtain ⟨c0, c1, c2, c3, c4, c5, c6, c7, c8, c9, c10, c11, c12, c13, c14, rfl⟩ := len15 hl
  obtain ⟨y0, h0, z0⟩ := hf 0 _ rfl 22 0 1 rfl rfl cells_u32
  obtain ⟨y1, h1, z1⟩ := hf 1 _ rfl 22 1 1 rfl rfl cells_u32
  obtain ⟨y2, h2, z2⟩ := hf 2 _ rfl 23 2 1 rfl rfl cells_errno
  obtain ⟨y3, h3, z3⟩ := hf 3 _ rfl 25 3 2 rfl rfl cells_hdl
  obtain ⟨y4, h4, z4⟩ := hf 4 _ rfl 28 5 5 rfl rfl cells_attr
  obtain ⟨y5, h5, z5⟩ := hf 5 _ rfl 29 10 1 rfl rfl cells_bs
  obtain ⟨y6, h6, z6⟩ := hf 6 _ rfl 30 11 1 rfl rfl cells_es
  obtain ⟨y7, h7, z7⟩ := hf 7 _ rfl 4 12 1 rfl rfl cells_bool
  obtain ⟨y8, h8, z8⟩ := hf 8 _ rfl 26 13 1 rfl rfl cells_u64
  obtain ⟨y9, h9, z9⟩ := hf 9 _ rfl 22 14 1 rfl rfl cells_u32
  obtain ⟨m0, b0, e0⟩ := opn_u32 Tryd.underlying22 h0
  obtain ⟨m1, b1, e1⟩ := opn_u32 Tryd.underlying22 h1
  obtain ⟨m2, b2, e2⟩ := opn_i64 Tryd.underlying23 h2
  obtain ⟨m3, g3, b3, d3, e3⟩ := opn_hdl h3 z3
  obtain ⟨k0, k1, k2, k3, k4, ⟨i0, i1, i2, i3, i4⟩, e4⟩ := opn_attr h4 z4
  obtain ⟨a, l, q, b5, d5, e5, r5⟩ := opn_bytes Tryd.underlying29 h5 z5
  obtain ⟨a2, l2, q2, b6, d6, e6, r6, o6⟩ := opn_ents h6 z6
  obtain ⟨m7, e7⟩ := opn_bool Tryd.underlying4 h7
  obtain ⟨m8, b8, e8⟩ := opn_u64 Tryd.underlying26 h8
  obtain ⟨m9, b9, e9⟩ := opn_u32 Tryd.underlying22 h9
  simp at e0 e1 e2 e3 e4 e5 e6 e7 e8 e9
  obtain ⟨e3, e3'⟩ := e3
  obtain ⟨e40, e41, e42, e43, e44⟩ := e4
  subst e0 e1 e2 e3 e3' e40 e41 e42 e43 e44 e5 e6 e7 e8 e9
  exact ⟨⟨m0, m1, m2, m3, g3, k0, k1, k2, k3, k4, l, l2, m7, m8, m9⟩, a, q, a2, q2, rfl, ⟨b0, b1, b3, d3, i0, i1, i2, i3, i4, b8, b9, o6⟩, d5, d6, r5, r6, b5, b6, b2⟩
end
#print axioms opn_reply
end Go.Proofs.YtnfcjfbepaoimaaDoor
