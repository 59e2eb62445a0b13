/- Package dir: Clone of entries, last, Add. -/
import Derived.Test.YtnfcjfbepaoimaaDoorDirF
set_option linter.unusedVariables false
set_option linter.unusedSimpArgs false
namespace Go.Proofs.YtnfcjfbepaoimaaDoor
open Go.RowKit

theorem info_ent : (Tryd.prog.info? 78).map (fun i => (i.zero, i.size, i.bytes)) = some (some (.agg #[.int .u64 0, .int .u32 0, .int .u32 0, .string ⟨#[]⟩]), 4, 32) := by kernel_rfl
theorem e_one : ∀ l : List Ent, ∀ u ∈ eCells l, u.oneCell' = true := by
  intro l u hu
  obtain ⟨x, _, h⟩ := List.mem_flatMap.1 hu
  simp [Ent.cells] at h
  rcases h with rfl | rfl | rfl | rfl <;> rfl
theorem eqlE : ∀ (w : World) (a : Option Addr) (n c n' c' : Nat), (binOp .eql 30 (.slice a n c) (.slice none n' c')).run Tryd.prog w = .ok (.bool a.isNone) w := fun w a n c n' c' => Lib.run_eql_slice_nil w _ _ a n c n' c' Tryd.underlying30

theorem own_base {w : World} {base base' e size : Nat} {v : Value} {n : Nat} {xs : List Value} (h : w.ownsRow base e size v n xs) (hb : base' ≤ base) : w.ownsRow base' e size v n xs := by
  refine ⟨h.1, ?_⟩
  rcases h.2 with ⟨rfl, rfl⟩ | ⟨g, cap, cur, rfl, hb', hg, hn, hm, hs, ht⟩
  · exact .inl ⟨rfl, rfl⟩
  · exact .inr ⟨g, cap, cur, rfl, by omega, hg, hn, hm, hs, ht⟩
/-- Entries in memory of one's own: a row to append to. -/
def OwnE (S : Nat → Obj → Prop) (W : World) (l : List Ent) : Ending → World → Prop := fun r W' =>
  ∃ v, r = .returned v ∧ W'.ownsRow W.heap.size 78 4 v l.length (eCells l) ∧ Kp S W W'

theorem cloneE_any (W : World) (N : Nat) (a : Option Addr) (c : Nat) (l : List Ent) (h : Rd W N a (eCells l)) (hl : l.length ≤ 4398046511104) :
    Calls Tryd.prog 76 #[.slice a l.length c] W (OwnE Nn W l) := by
  have q22 := eqlE
  cases a with
  | none =>
    have hl0 : l = [] := by
      cases l with
      | nil => rfl
      | cons x l => obtain ⟨b, o, h, _⟩ := h (by simp [eCells, Ent.cells]); cases h
    subst hl0
    have hfin : OwnE Nn W [] (.returned (.slice none 0 0)) W := ⟨_, rfl, World.ownsRow_nil _ _ _ _, Kp.refl _ _⟩
    have H := Hid.mk hfin
    clear hfin
    go_enter Tryd.func76, Tryd.ntmps76
    go_wp2
    go_ret
    exact H.out
  | some ad =>
    go_enter Tryd.func76, Tryd.ntmps76
    go_wp2_with (at_builtin; obtain ⟨i0, hi, hz0, hz1, hz2⟩ := info_parts info_ent; go_must (refine wpList_app _ rfl (.tmp 5) (.tmp 6) 30 rfl W.heap.size 78 i0 _ 4 32 Tryd.underlying30 hi hz0 hz1 hz2 rfl (by decide) _ 0 [] rfl ?own _ N l.length c (eCells l) rfl ?len (h.alloc _) (e_one l) ?b1 ?b2 ?b3 ?_))
    case own => exact World.ownsRow_made W #[] 0 (Nat.le_refl _) (by simp [maxLen]) rfl
    case len => exact eCells_length l
    case b1 => simp only [maxLen]; omega
    case b2 => omega
    case b3 => simp
    intro v' w' hown hg hat
    have k1 := (((Kp.refl Nn W).alloc _).grown hg (fun k hk => .inl (by simp [Value.ownBlock] at hk; omega)))
    have hfin : Hid (OwnE Nn W l (.returned v') w') := ⟨v', rfl, hown, k1⟩
    obtain ⟨a', c', rfl, _, _, _⟩ := own_out hown
    clear hown hg hat h k1
    go_wp2
    go_ret
    exact hfin.out

def lastC (l : List Ent) : Nat := match l.getLast? with | some e => e.cookie | none => 0

theorem last_any (W : World) (N : Nat) (a : Option Addr) (c : Nat) (l : List Ent) (h : Rd W N a (eCells l)) (hl : l.length ≤ 4398046511104) :
    Calls Tryd.prog 75 #[.slice a l.length c] W fun r W' => r = .returned (.int .u64 (lastC l : Nat)) ∧ W = W' := by
  by_cases h0 : l.length = 0
  · have e : Hid (lastC l = 0) := by
      have : l = [] := List.eq_nil_of_length_eq_zero h0
      subst this; rfl
    go_enter Tryd.func75, Tryd.ntmps75
    go_wp2_with fail
    go_ret
    rw [e.out]
    exact ⟨rfl, rfl⟩
  · obtain ⟨b, o, rfl, hb, c0, _, _, _⟩ := eRd h (l.length - 1) (by omega)
    have e : l[l.length - 1].cookie = lastC l := by
      unfold lastC
      rw [List.getLast?_eq_getElem?, List.getElem?_eq_getElem (by omega)]
    have hw : ((l.length : Int) - 1) = ((l.length - 1 : Nat) : Int) := by omega
    rw [e] at c0
    clear e h
    go_enter Tryd.func75, Tryd.ntmps75
    go_wp2_with fail
    go_ret
    exact ⟨rfl, rfl⟩

theorem own_snoc {w : World} {base : Nat} {v : Value} {l : List Ent} {e : Ent} (h : w.ownsRow base 78 4 v (l.length + 1) (eCells l ++ e.cells)) : w.ownsRow base 78 4 v (l ++ [e]).length (eCells (l ++ [e])) := by
  have e1 : eCells (l ++ [e]) = eCells l ++ e.cells := by simp [eCells]
  have e2 : (l ++ [e]).length = l.length + 1 := by simp
  rw [e1, e2]
  exact h
/-- An entry is added. -/
def addE (l : List Ent) (e : Ent) : List Ent × Int :=
  if nameErr e.name ≠ 0 then ([], nameErr e.name) else if 0 ≤ findI l e.name then ([], 61) else if e.cookie ≤ lastC l then ([], 70) else (l ++ [e], 0)

def AddP (W : World) (x : List Ent × Int) : Ending → World → Prop := fun r W' =>
  ∃ v, r = .returned (.tuple #[v, .int .i64 x.2]) ∧ W'.ownsRow W.heap.size 78 4 v x.1.length (eCells x.1) ∧ Kp Nn W W'

def entBlk (W : World) (b : Nat) (e : Ent) : Prop := W.heap[b]? = some (.cells #[.int .u64 (e.cookie : Int), .int .u32 (e.ino : Int), .int .u32 (e.gen : Int), .string e.name] 78 (0, 0))
theorem entBlk.c0 {W : World} {b : Nat} {e : Ent} (h : entBlk W b e) : W.cell? ⟨b, 0, none⟩ = some (.int .u64 (e.cookie : Int)) := cell_blk h 0
theorem entBlk.c1 {W : World} {b : Nat} {e : Ent} (h : entBlk W b e) : W.cell? ⟨b, 1, none⟩ = some (.int .u32 (e.ino : Int)) := cell_blk h 1
theorem entBlk.c2 {W : World} {b : Nat} {e : Ent} (h : entBlk W b e) : W.cell? ⟨b, 2, none⟩ = some (.int .u32 (e.gen : Int)) := cell_blk h 2
theorem entBlk.c3 {W : World} {b : Nat} {e : Ent} (h : entBlk W b e) : W.cell? ⟨b, 3, none⟩ = some (.string e.name) := cell_blk h 3

theorem addE_1 {l : List Ent} {e : Ent} (h : ¬ nameErr e.name = 0) : addE l e = ([], nameErr e.name) := by simp [addE, h]
theorem addE_2 {l : List Ent} {e : Ent} (h : nameErr e.name = 0) (h2 : 0 ≤ findI l e.name) : addE l e = ([], 61) := by simp [addE, h, h2]
theorem addE_3 {l : List Ent} {e : Ent} (h : nameErr e.name = 0) (h2 : ¬ 0 ≤ findI l e.name) (h3 : e.cookie ≤ lastC l) : addE l e = ([], 70) := by simp [addE, h, h2, h3]
theorem addE_4 {l : List Ent} {e : Ent} (h : nameErr e.name = 0) (h2 : ¬ 0 ≤ findI l e.name) (h3 : ¬ e.cookie ≤ lastC l) : addE l e = (l ++ [e], 0) := by simp [addE, h, h2, h3]

set_option maxRecDepth 100000 in
theorem add_any (W : World) (N : Nat) (a : Option Addr) (c : Nat) (l : List Ent) (h : Rd W N a (eCells l)) (hN : N ≤ W.heap.size) (hl : l.length < 4398046511104) (e : Ent) :
    Calls Tryd.prog 68 #[.slice a l.length c, e.val] W (AddP W (addE l e)) := by
  unfold Ent.val
  by_cases h1 : nameErr e.name = 0
  · have h1' := Hid.mk h1
    by_cases h2 : 0 ≤ findI l e.name
    · go_enter Tryd.func68, Tryd.ntmps68
      go_wp2_with (first
        | (go_at_call 73; refine (name_any _ _).mono ?_; rintro e1 W1 ⟨rfl, k1⟩; rw [h1]; have hb : entBlk W1 W.heap.size e := k1.block _ _ (blk_new W _) (fun x => x); have g3 := hb.c3; have h' := (h.alloc _).kp k1 (fun _ _ _ x => x); have k1 := ((Kp.refl Nn W).alloc _).trans k1)
        | (go_at_call 74; refine (find_any _ _ _ _ _ h' (by have := k1.size; omega) (by omega) _).mono ?_; rintro e2 W2 ⟨rfl, k2⟩; have k2 := Hid.mk (k1.trans k2)))
      go_ret2
      rw [addE_2 h1'.out h2]
      exact ⟨_, rfl, World.ownsRow_nil _ _ _ _, k2.out⟩
    · by_cases h3 : e.cookie ≤ lastC l
      · go_enter Tryd.func68, Tryd.ntmps68
        go_wp2_with (first
          | (go_at_call 73; refine (name_any _ _).mono ?_; rintro e1 W1 ⟨rfl, k1⟩; rw [h1]; have hb : entBlk W1 W.heap.size e := k1.block _ _ (blk_new W _) (fun x => x); have g3 := hb.c3; have h' := (h.alloc _).kp k1 (fun _ _ _ x => x); have k1 := ((Kp.refl Nn W).alloc _).trans k1)
          | (go_at_call 74; refine (find_any _ _ _ _ _ h' (by have := k1.size; omega) (by omega) _).mono ?_; rintro e2 W2 ⟨rfl, k2⟩; have hb2 : entBlk W2 W.heap.size e := k2.block _ _ hb (fun x => x); have h2' := h'.kp k2 (fun _ _ _ x => x); have k2 := k1.trans k2; have g0 := hb2.c0))
        have hs2 := k2.size
        have k2 := Hid.mk k2
        have hb2 := Hid.mk hb2
        go_quiet ((go_at_call 75; exact Calls.quiet_of_same ((last_any _ _ _ _ _ (h2'.drewN _) (by omega)).mono (fun e w ⟨a, b⟩ => ⟨a, b.symm⟩))))
        have kd := Hid.mk (k2.out.drewN nq)
        have hd := Hid.mk (h2'.drewN nq)
        have hbd : entBlk (W2.drewN nq) W.heap.size e := hb2.out
        generalize W2.drewN nq = Wd at *
        go_wp2_with fail
        go_ret2
        rw [addE_3 h1'.out (by omega) h3]
        exact ⟨_, rfl, World.ownsRow_nil _ _ _ _, kd.out⟩
      · go_enter Tryd.func68, Tryd.ntmps68
        go_wp2_with (first
          | (go_at_call 73; refine (name_any _ _).mono ?_; rintro e1 W1 ⟨rfl, k1⟩; rw [h1]; have hb : entBlk W1 W.heap.size e := k1.block _ _ (blk_new W _) (fun x => x); have g3 := hb.c3; have h' := (h.alloc _).kp k1 (fun _ _ _ x => x); have k1 := ((Kp.refl Nn W).alloc _).trans k1)
          | (go_at_call 74; refine (find_any _ _ _ _ _ h' (by have := k1.size; omega) (by omega) _).mono ?_; rintro e2 W2 ⟨rfl, k2⟩; have hb2 : entBlk W2 W.heap.size e := k2.block _ _ hb (fun x => x); have h2' := h'.kp k2 (fun _ _ _ x => x); have k2 := k1.trans k2; have g0 := hb2.c0))
        have hs2 := k2.size
        have k2 := Hid.mk k2
        have hb2 := Hid.mk hb2
        go_quiet ((go_at_call 75; exact Calls.quiet_of_same ((last_any _ _ _ _ _ (h2'.drewN _) (by omega)).mono (fun e w ⟨a, b⟩ => ⟨a, b.symm⟩))))
        have kd := Hid.mk (k2.out.drewN nq)
        have hd := Hid.mk (h2'.drewN nq)
        have hbd : entBlk (W2.drewN nq) W.heap.size e := hb2.out
        generalize W2.drewN nq = Wd at *
        go_wp2_with fail
        have kd' := Hid.mk kd.out.drew
        have hd' := Hid.mk hd.out.drew
        have hbd' : entBlk Wd.drew W.heap.size e := hbd
        have hsd : W.heap.size ≤ Wd.drew.heap.size := kd'.out.size
        have y0 := hbd'.c0; have y1 := hbd'.c1; have y2 := hbd'.c2; have y3 := hbd'.c3
        obtain ⟨i0, hi, hz0, hz1, hz2⟩ := info_parts info_ent
        have hi := Hid.mk hi
        have hz0 := Hid.mk hz0
        have hz1 := Hid.mk hz1
        have hz2 := Hid.mk hz2
        go_region_law (first
          | (refine step_call _ _ Tryd.func76 (by kernel_rfl) (by kernel_rfl) (by rfl) _ _ (by rfl) [.slice a l.length c] (by rfl) (cloneE_any _ N a c l (by first | exact hd'.out | exact Rd.alloc hd'.out _) (by omega)) ?_; rintro e' w1 ⟨v1, rfl, own1, kc⟩; refine ⟨_, rfl, ?_⟩; have hb1 : entBlk w1 W.heap.size e := kc.block _ _ (by first | exact hbd' | exact blk_alloc hbd' _) (fun x => x); have x0 := hb1.c0; have x1 := hb1.c1; have x2 := hb1.c2; have x3 := hb1.c3; have own1 := own_base (base' := W.heap.size) own1 (by first | exact hsd | exact Nat.le_trans hsd (by simp)); have hs1 := kc.size; have kc' : Kp Nn W w1 := by first | exact (kd'.out).trans kc | exact (kd'.out.alloc _).trans kc)
          | (refine step_append_lies _ (by rfl) (.tmp 26) (.tmp 28) 30 (by rfl) W.heap.size 78 i0 _ 4 32 Tryd.underlying30 hi.out hz0.out hz1.out hz2.out rfl (by omega) v1 l.length (eCells l) (by rfl) (own1.alloc _) ⟨w1.heap.size, 0, none⟩ 1 1 e.cells (by rfl) (by rfl) (World.news_of_block (heap_alloc_new w1 _)) (by intro u hu; simp [Ent.cells] at hu; rcases hu with rfl | rfl | rfl | rfl <;> rfl) (by omega) (by simp only [maxLen]; omega) (by omega) (by first | exact kc'.size | exact Nat.le_trans kc'.size (by simp)) _ (by rfl) ?_; intro g cap w2 own2 hgrow hat hlt)
          | (refine step_append_lies _ (by rfl) (.tmp 26) (.tmp 28) 30 (by rfl) W.heap.size 78 i0 _ 4 32 Tryd.underlying30 hi.out hz0.out hz1.out hz2.out rfl (by omega) v1 l.length (eCells l) (by rfl) own1 ⟨Wd.drew.heap.size, 0, none⟩ 1 1 e.cells (by rfl) (by rfl) (World.news_of_block (kc.block _ _ (heap_alloc_new Wd.drew _) (fun x => x))) (by intro u hu; simp [Ent.cells] at hu; rcases hu with rfl | rfl | rfl | rfl <;> rfl) (by omega) (by simp only [maxLen]; omega) (by omega) (by first | exact kc'.size | exact Nat.le_trans kc'.size (by simp)) _ (by rfl) ?_; intro g cap w2 own2 hgrow hat hlt))
        all_goals
          have kg := fun k (hk : v1.ownBlock = some k) => (own_blk own1 hk).1
          have kfin : Hid (Kp Nn W w2) := by first | exact (kc'.grown hgrow (fun k hk => .inl (kg k hk))) | exact ((kc'.alloc _).grown hgrow (fun k hk => .inl (kg k hk)))
          have ofin : Hid (w2.ownsRow W.heap.size 78 4 (.slice (some ⟨g, 0, none⟩) (l.length + 1) cap) (l.length + 1) (eCells l ++ e.cells)) := own2
          clear own2 hgrow hat hlt kg
          go_wp2_with fail
          go_ret2
          rw [addE_4 h1'.out (by omega) h3]
          refine ⟨_, rfl, ?_, kfin.out⟩
          exact own_snoc ofin.out
  · go_enter Tryd.func68, Tryd.ntmps68
    go_wp2_with (first
        | (go_at_call 73; refine (name_any _ _).mono ?_; rintro e1 W1 ⟨rfl, k1⟩))
    go_ret2
    rw [addE_1 h1]
    exact ⟨_, rfl, World.ownsRow_nil _ _ _ _, ((Kp.refl Nn W).alloc _).trans k1⟩
end Go.Proofs.YtnfcjfbepaoimaaDoor
