/- Laws for the walk, over any program: append of whatever is read, of zeros; []byte(s), string(b). -/
import Derived.Test.YtnfcjfbepaoimaaDoorBase
import Derived.Laws.IdiomStrings
import Derived.Deep.AppendLies
set_option linter.unusedVariables false
set_option linter.unusedSimpArgs false
namespace Go.Proofs.YtnfcjfbepaoimaaDoor
open Go.RowKit

theorem u8_one : ∀ l : List UInt8, ∀ u ∈ bys l, u.oneCell' = true := by
  intro l u hu
  obtain ⟨x, _, rfl⟩ := List.mem_map.1 hu
  rfl

section
variable {P : Program} (w : World)

/-- 'append(s, x...)', s of one's own, x whatever slice: what is read of x is behind it. -/
theorem run_app (base : Nat) (t ty e : TypeId) (i : TypeInfo) (z : Value) (size bytes : Nat) (ht : P.underlying t = some (.slice e)) (hi : P.info? e = some i) (hz : i.zero = some z)
    (hsize : i.size = size) (hby : i.bytes = bytes) (hzs : z.cells.size = size) (hsz : 0 < size)
    (v : Value) (n : Nat) (xs : List Value) (hown : w.ownsRow base e size v n xs)
    (ao : Option Addr) (N m c : Nat) (news : List Value) (hl : news.length = m * size) (hr : Rd w N ao news) (h1 : ∀ u ∈ news, u.oneCell' = true)
    (h63 : n + m ≤ maxLen) (hbytes : (n + m) * bytes ≤ 140737488355328) (hbase : base ≤ w.heap.size) :
    ∃ v' w', (Builtin.append_ #[t, t] ty #[v, .slice ao m c]).run P w = .ok v' w' ∧ w'.ownsRow base e size v' (n + m) (xs ++ news) ∧ w.grownBy w' v.ownBlock ∧
      (∀ k, v'.ownBlock = some k → v.ownBlock = some k ∨ w.heap.size ≤ k) := by
  have close : ∀ v' w', w.grownBy w' v.ownBlock → w'.ownsRow base e size v' (n + m) (xs ++ news) → True := fun _ _ _ _ => trivial
  cases ao with
  | none =>
    have hnews : news = [] := by
      cases news with
      | nil => rfl
      | cons x l => obtain ⟨b, o, h, _⟩ := hr (by simp); cases h
    subst hnews
    have hm : m = 0 := by
      have h0 : m * size = 0 := by simpa using hl.symm
      rcases Nat.mul_eq_zero.1 h0 with h | h
      · exact h
      · omega
    subst hm
    refine ⟨v, w, ?_, by simpa using hown, ⟨rfl, rfl, rfl, Nat.le_refl _, fun _ _ _ => rfl⟩, fun k hk => .inl hk⟩
    rcases hown.2 with ⟨rfl, rfl⟩ | ⟨g, cap, cur, rfl, _, _, hnc, _⟩
    · simp [Builtin.append_, run_underlying ht, sizeOf, typeInfo, hi, Builtin.lenOf, Builtin.firstCells]
    · simp [Builtin.append_, run_underlying ht, sizeOf, typeInfo, hi, Builtin.lenOf, Builtin.firstCells, hnc, storeCells]
  | some ad =>
    have hnews : ∀ j u, news[j]? = some u → w.cell? (ad.add j) = some u := by
      intro j u hj
      obtain ⟨b, o, h, _, hc⟩ := Rd.at hr j u hj
      obtain rfl := Option.some.inj h
      rw [addr_add]; exact hc
    obtain ⟨v', w', hrun, ho, hg, _⟩ := run_append_own (P := P) w base t ty e i z size bytes ht hi hz hsize hby hzs hsz v n xs hown ad m c news hl hnews h1 h63 hbytes hbase
    refine ⟨v', w', hrun, ho, hg, fun k hk => ?_⟩
    -- where it lies: by the law's own two arms
    rcases hown.2 with ⟨rfl, rfl⟩ | ⟨g, cap, cur, rfl, hbg, hgg, hnc, hcm, hcs, htake⟩
    · rcases ho.2 with ⟨rfl, _⟩ | ⟨g', cap', cur', rfl, hb', hg', _⟩
      · simp [Value.ownBlock] at hk
      · simp [Value.ownBlock] at hk
        subst hk
        right
        by_cases hlt : g' < w.heap.size
        · exfalso
          by_cases hm : m = 0
          · subst hm
            have hn : news = [] := List.eq_nil_of_length_eq_zero (by simpa using hl)
            subst hn
            simp [Builtin.append_, run_underlying ht, sizeOf, typeInfo, hi, Builtin.lenOf, Builtin.firstCells, loadCells, loadCellsFrom] at hrun
          · have h2 := run_append_nil (P := P) w t ty e i z ht hi hz ad m c news (by rw [hsize]; exact hl) hnews (by omega) (by simp only [maxLen] at h63; omega) (by rw [hby]; have hb := hbytes; simp only [Nat.zero_add] at hb; omega)
            rw [hrun] at h2
            injection h2 with h2 _
            injection h2 with h2 _ _
            injection h2 with h2
            injection h2 with h2 _ _
            omega
        · omega
    · by_cases hroom : n + m ≤ cap
      · left
        have hfit : n * i.size + news.length ≤ cur.size := by rw [hl, hsize, hcs, ← Nat.add_mul]; exact Nat.mul_le_mul_right _ hroom
        have h2 := run_append_room (P := P) w t ty e i ht hi g n cap cur hgg ad m c news (by rw [hsize]; exact hl) hnews h1 hroom hfit
        rw [hrun] at h2
        injection h2 with h2 _
        subst h2
        exact hk
      · right
        have holds : ∀ j u, xs[j]? = some u → w.cell? ((⟨g, 0, none⟩ : Addr).add j) = some u := hown.cells (g := g) rfl
        have h2 := run_append_grow (P := P) w t ty e i z ht hi hz ⟨g, 0, none⟩ n cap xs (by rw [hsize]; exact hown.1) holds ad m c news (by rw [hsize]; exact hl) hnews (by omega) (by simp only [maxLen] at h63; omega) (by rw [hby]; exact growslice_fits (by omega) hbytes)
        rw [hrun] at h2
        injection h2 with h2 _
        subst h2
        simp [Value.ownBlock] at hk
        omega

theorem wpList_app {ops : Array Oper} {rest : List Oper} {o : Oper} {a : Act} {Q : Exit → Act → World → Prop} (hgd : o.guard = none) (s x : Operand) (t : TypeId)
    (ho : o.op = .call { callee := .builtin .append, args := #[s, x], argTypes := #[t, t] })
    (base : Nat) (e : TypeId) (i : TypeInfo) (z : Value) (size bytes : Nat) (ht : P.underlying t = some (.slice e)) (hi : P.info? e = some i) (hz : i.zero = some z)
    (hsize : i.size = size) (hby : i.bytes = bytes) (hzs : z.cells.size = size) (hsz : 0 < size)
    (v : Value) (n : Nat) (xs : List Value) (hs : a.eval s = v) (hown : w.ownsRow base e size v n xs)
    (ao : Option Addr) (N m c : Nat) (news : List Value) (hx : a.eval x = .slice ao m c) (hl : news.length = m * size) (hr : Rd w N ao news) (h1 : ∀ u ∈ news, u.oneCell' = true)
    (h63 : n + m ≤ maxLen) (hbytes : (n + m) * bytes ≤ 140737488355328) (hbase : base ≤ w.heap.size)
    (h : ∀ v' w', w'.ownsRow base e size v' (n + m) (xs ++ news) → w.grownBy w' v.ownBlock → (∀ k, v'.ownBlock = some k → v.ownBlock = some k ∨ w.heap.size ≤ k) → wpList P ops Q rest (a.put o.dst v') w') : wpList P ops Q (o :: rest) a w := by
  refine wpList_plain hgd fun K hK => ?_
  obtain ⟨v', w', hr, h2, h3, h4⟩ := run_app (P := P) w base t o.type e i z size bytes ht hi hz hsize hby hzs hsz v n xs hown ao N m c news hl hr h1 h63 hbytes hbase
  unfold Oper.wp execOp
  simp only [ho, resolve, invoke, builtin, Sem.run_bind, Sem.run_pure, Result.andThen_ok, List.map_toArray, List.map_cons, List.map_nil, hs, hx, hr]
  exact hK _ _ (h v' w' h2 h3 h4)

theorem zeroCells_u8 (m : Nat) : (Builtin.zeroCells #[.int .u8 0] m).toList = bys (List.replicate m 0) := by
  apply List.ext_getElem?
  intro j
  simp [Builtin.zeroCells, bt8, List.getElem?_replicate, Nat.mod_one]
  by_cases h : j < m <;> simp [h]

/-- 'append(s, make([]byte, m)...)', s of one's own. -/
theorem run_appz (base : Nat) (t tn ty e : TypeId) (i : TypeInfo) (ht : P.underlying t = some (.slice e)) (htn : P.underlying tn = some (.int .i64)) (hi : P.info? e = some i) (hz : i.zero = some (.int .u8 0))
    (hsize : i.size = 1) (hby : i.bytes = 1)
    (v : Value) (n : Nat) (xs : List Value) (hown : w.ownsRow base e 1 v n xs) (m : Nat) (hb : n + m ≤ 140737488355328) (hbase : base ≤ w.heap.size) :
    ∃ v' w', (Builtin.append_ #[t, tn] ty #[v, .int .i64 (m : Int)]).run P w = .ok v' w' ∧ w'.ownsRow base e 1 v' (n + m) (xs ++ bys (List.replicate m 0)) ∧ w.grownBy w' v.ownBlock ∧
      (∀ k, v'.ownBlock = some k → v.ownBlock = some k ∨ w.heap.size ≤ k) := by
  have h63 : n + m ≤ maxLen := by simp only [maxLen]; omega
  have hw : IntKind.i64.wrap (m : Int) = m := by rw [IntKind.wrap_i64]; omega
  have hw0 : IntKind.i64.wrap 0 = 0 := by rw [IntKind.wrap_i64]; rfl
  have hneg : ¬ ((m : Int) < 0) := by omega
  have hbig : ¬ (281474976710656 < (m : Int)) := by omega
  have hxl := hown.1
  have hza : Builtin.zeroCells #[.int .u8 0] m = (bys (List.replicate m 0)).toArray := by rw [← zeroCells_u8]
  have hlen : (xs ++ bys (List.replicate m 0)).length = (n + m) * 1 := by simp at hxl; simp [hxl]
  have h63' : ¬ (9223372036854775807 < ((n : Int) + (m : Int))) := by omega
  have hzc : (Value.int IntKind.u8 0).cells = #[.int .u8 0] := rfl
  by_cases hm : m = 0
  · subst hm
    refine ⟨v, w, ?_, by simpa using hown, ⟨rfl, rfl, rfl, Nat.le_refl _, fun _ _ _ => rfl⟩, fun k hk => .inl hk⟩
    rcases hown.2 with ⟨rfl, rfl⟩ | ⟨g, cap, cur, rfl, hbg, hg, hnc, hcm, hcs, htake⟩
    · simp [Builtin.append_, run_underlying ht, run_underlying htn, sizeOf, typeInfo, hi, asInt, asIntOf, hw0]
    · simp [Builtin.append_, run_underlying ht, run_underlying htn, sizeOf, typeInfo, hi, asInt, asIntOf, hw0, hnc, storeCells]
  · have grown : ∀ (A : Option Addr) (cap : Nat), cap < n + m → (Builtin.firstCells 1 n (.slice A n cap)).run P w.drew = .ok xs.toArray w.drew →
        ∃ v' w', (Builtin.append_ #[t, tn] ty #[.slice A n cap, .int .i64 (m : Int)]).run P w = .ok v' w' ∧ w'.ownsRow base e 1 v' (n + m) (xs ++ bys (List.replicate m 0)) ∧ (∀ row, w.grownBy w' row) ∧
          (∀ k, v'.ownBlock = some k → w.heap.size ≤ k) := by
      intro A cap hcap hfo
      have hge := grownCap_ge w (n + m) cap e
      have hcm : grownCap w (n + m) cap e ≤ maxLen := grownCap_le_maxLen w (n + m) cap e h63
      have hn : ¬ (n + m ≤ cap) := by omega
      have hfit := growslice_fits (bytes := 1) hcap (by omega)
      have h48' : ¬ (281474976710656 < Builtin.nextslicecap (n + m) cap) := by omega
      refine ⟨.slice (some ⟨w.heap.size, 0, none⟩) (n + m) (grownCap w (n + m) cap e), w.drew.alloc (.cells (xs.toArray ++ (bys (List.replicate m 0)).toArray ++ Builtin.zeroCells #[.int .u8 0] (grownCap w (n + m) cap e - (n + m))) e), ?_,
        ⟨hlen, .inr ⟨w.heap.size, _, _, rfl, hbase, heap_alloc_new w.drew _, hge, hcm, ?_, ?_⟩⟩, fun row => ⟨rfl, rfl, rfl, by simp, fun k hk _ => heap_alloc_old w.drew _ hk⟩, fun k hk => by simp [Value.ownBlock] at hk; omega⟩
      · simp [Builtin.append_, run_underlying ht, run_underlying htn, sizeOf, typeInfo, zeroValue, hi, hz, hsize, hby, asInt, asIntOf, hw, hneg, hbig, hn, h63', h48', hm, Question.forced, hfo, newRow, grownCap, hzc, hza]
      · simp only [Array.size_append, List.size_toArray, size_zeroCells, List.length_map, List.length_replicate]
        simp at hxl
        simp [hxl]
        omega
      · simp only [Array.toList_append, List.append_assoc]
        rw [← List.append_assoc, ← hlen]
        exact List.take_left
    rcases hown.2 with ⟨rfl, rfl⟩ | ⟨g, cap, cur, rfl, hbg, hg, hnc, hcm, hcs, htake⟩
    · have hx : xs = [] := List.eq_nil_of_length_eq_zero (by simpa using hown.1)
      subst hx
      obtain ⟨v', w', h1, h2, h3, h4⟩ := grown none 0 (by omega) (by simp [Builtin.firstCells, loadCells, loadCellsFrom])
      exact ⟨v', w', h1, h2, h3 _, fun k hk => .inr (h4 k hk)⟩
    · by_cases hroom : n + m ≤ cap
      · simp only [Nat.mul_one] at hcs htake hxl
        have hst := run_storeCells_at P g n e (bys (List.replicate m 0)) 0 cur w hg (by simp; omega) (u8_one _)
        simp only [Nat.add_zero] at hst
        simp at hst
        refine ⟨.slice (some ⟨g, 0, none⟩) (n + m) cap, w.setRow g (cur.toList.take n ++ bys (List.replicate m 0) ++ cur.toList.drop (n + (bys (List.replicate m 0)).length)).toArray, ?_, ⟨hlen, .inr ⟨g, cap, _, rfl, hbg, setRow_heap w g cur _ e _ hg, hroom, hcm, ?_, ?_⟩⟩, ⟨rfl, rfl, rfl, by simp, fun k hk _ => setRow_other w g k _ (fun x => by subst x; simp_all [Value.ownBlock])⟩, fun k hk => .inl hk⟩
        · simp [Builtin.append_, run_underlying ht, run_underlying htn, sizeOf, typeInfo, zeroValue, hi, hz, hsize, hby, asInt, asIntOf, hw, hneg, hbig, hroom, hm, hzc, hza, Addr.add_lit, hst]
        · simp only [List.size_toArray, List.length_append, List.length_take, List.length_drop, Array.length_toList, List.length_map, List.length_replicate]
          omega
        · rw [Nat.mul_one, htake]
          have e2 : (xs ++ bys (List.replicate m 0)).length = n + m := by simpa using hlen
          rw [← e2]
          exact List.take_left
      · have holds : (loadCells ⟨g, 0, none⟩ n).run P w.drew = .ok xs.toArray w.drew := by
          have := run_loadCells_list (P := P) w.drew ⟨g, 0, none⟩ xs (fun j u hj => hown.cells (g := g) rfl j u hj)
          simp only [Nat.mul_one] at hxl
          rwa [hxl] at this
        obtain ⟨v', w', h1, h2, h3, h4⟩ := grown (some ⟨g, 0, none⟩) cap (by omega) (by simpa [Builtin.firstCells] using holds)
        exact ⟨v', w', h1, h2, h3 _, fun k hk => .inr (h4 k hk)⟩
end

theorem wpList_appz {P : Program} (w : World) {ops : Array Oper} {rest : List Oper} {o : Oper} {a : Act} {Q : Exit → Act → World → Prop} (hgd : o.guard = none) (s x : Operand) (t tn : TypeId)
    (ho : o.op = .call { callee := .builtin .append, args := #[s, x], argTypes := #[t, tn] })
    (base : Nat) (e : TypeId) (i : TypeInfo) (ht : P.underlying t = some (.slice e)) (htn : P.underlying tn = some (.int .i64)) (hi : P.info? e = some i) (hz : i.zero = some (.int .u8 0))
    (hsize : i.size = 1) (hby : i.bytes = 1)
    (v : Value) (n : Nat) (xs : List Value) (hs : a.eval s = v) (hown : w.ownsRow base e 1 v n xs) (m : Nat) (hx : a.eval x = .int .i64 (m : Int)) (hb : n + m ≤ 140737488355328) (hbase : base ≤ w.heap.size)
    (h : ∀ v' w', w'.ownsRow base e 1 v' (n + m) (xs ++ bys (List.replicate m 0)) → w.grownBy w' v.ownBlock → (∀ k, v'.ownBlock = some k → v.ownBlock = some k ∨ w.heap.size ≤ k) → wpList P ops Q rest (a.put o.dst v') w') : wpList P ops Q (o :: rest) a w := by
  refine wpList_plain hgd fun K hK => ?_
  obtain ⟨v', w', hr, h2, h3, h4⟩ := run_appz (P := P) w base t tn o.type e i ht htn hi hz hsize hby v n xs hown m hb hbase
  unfold Oper.wp execOp
  simp only [ho, resolve, invoke, builtin, Sem.run_bind, Sem.run_pure, Result.andThen_ok, List.map_toArray, List.map_cons, List.map_nil, hs, hx, hr]
  exact hK _ _ (h v' w' h2 h3 h4)

theorem run_call_func {P : Program} {w : World} {a : Act} {o : Oper} (f : FuncId) (fn : Func) (hf : P.funcs[f]? = some fn) (hn : (fn.name == "runtime.NumGoroutine") = false) (hb : fn.body.isNone = false) (args : Array Operand) (ts : Array TypeId) (ho : o.op = .call { callee := .value (.func f), args := args, argTypes := ts }) :
    (execOp a.eval o).run P w = .ok (.enter f (args.map a.eval)) w := by
  have hn' : ¬ fn.name = "runtime.NumGoroutine" := by simpa using hn
  have hb' : ¬ fn.body = none := by intro e; rw [e] at hb; simp at hb
  unfold execOp
  simp [ho, resolve, invoke, Act.eval, Deferred.ofValue, callFunc, hf, hn', hb']
/-- A call of a Go function as one step of a region that draws. -/
theorem step_call {P : Program} {ops : Array Oper} {o : Oper} {a : Act} {w : World} {K : Act → World → Prop} {Q : Exit → Act → World → Prop} {E : Prop} (f : FuncId) (fn : Func) (hf : P.funcs[f]? = some fn) (hn : (fn.name == "runtime.NumGoroutine") = false) (hb : fn.body.isNone = false)
    (hgd : o.guard = none) (args : List Operand) (ts : Array TypeId) (ho : o.op = .call { callee := .value (.func f), args := args.toArray, argTypes := ts })
    {R : Ending → World → Prop} (vs : List Value) (hv : args.map a.eval = vs) (hc : Calls P f vs.toArray w R) (h : ∀ e w', R e w' → ∃ v, e = .returned v ∧ K (a.put o.dst v) w') : if Region.wanted o (yielded ops a.tmps) = true then Oper.wp P o a w K Q else E := by
  have hw : Region.wanted o (yielded ops a.tmps) = true := by simp [Region.wanted, hgd]
  subst hv
  rw [if_pos hw]
  unfold Oper.wp
  rw [run_call_func f fn hf hn hb args.toArray ts ho, Oper.upon_enter, List.map_toArray]
  refine hc.mono ?_
  intro e w' he
  obtain ⟨v, rfl, hk⟩ := h e w' he
  exact hk

section
variable {P : Program}
/-- 'string(b)' of what is read. -/
theorem run_b2s (w : World) (src dst e : TypeId) (N c : Nat) (a : Option Addr) (l : List UInt8) (hs : P.underlying src = some (.slice e)) (he : P.underlying e = some (.int .u8)) (hd : P.underlying dst = some .string)
    (h : Rd w N a (bys l)) : (convert src dst (.slice a l.length c)).run P w = .ok (.string ⟨l.toArray⟩) w := by
  by_cases h0 : 0 < l.length
  · obtain ⟨b, o, rfl, _, hc⟩ := h (by simpa using h0)
    refine run_convert_bytes_back w src dst e ⟨b, o, none⟩ c l hs he hd fun j hj => ?_
    rw [addr_add]
    exact hc j _ (by simp [List.getElem?_eq_getElem hj, bt8])
  · have hl : l = [] := List.eq_nil_of_length_eq_zero (by omega)
    subst hl
    cases a with
    | none =>
      rw [run_convert_bytes_string w src dst e none _ c hs he hd]
      simp [Conv.bytesToString, Sem.run_pure]
      rfl
    | some ad => exact run_convert_bytes_back w src dst e ad c [] hs he hd (fun j hj => by simp at hj)

/-- '[]byte(s)'. -/
theorem s2b_kp (w : World) (e : TypeId) (s : ByteArray) : Kp Nn w (Lib.bytesWorld w e s) :=
  ⟨by simp [Lib.bytesWorld, World.freeze, World.alloc, World.drew, -World.alloc_eq, -World.drew_eq], by simp [Lib.bytesWorld, World.freeze, World.alloc, World.drew, -World.alloc_eq, -World.drew_eq], by simp [Lib.bytesWorld, World.freeze, World.alloc, World.drew, -World.alloc_eq, -World.drew_eq],
    by rw [Lib.bytesWorld_size]; omega, fun k o hk _ => (Lib.bytesWorld_at_old w e s k (lt_of_blk hk)).trans hk⟩
theorem s2b_rd (w : World) (e : TypeId) (s : ByteArray) : Rd (Lib.bytesWorld w e s) (w.heap.size + 1) (some ⟨w.heap.size, 0, none⟩) (bys s.data.toList) := fun _ =>
  ⟨w.heap.size, 0, rfl, by omega, fun j u hu => by
    have hj : j < s.data.toList.length := by
      have := (List.getElem?_eq_some_iff.1 hu).1
      simpa using this
    rw [Nat.zero_add, Lib.bytesWorld_cell w e s j (by simpa using hj)]
    simp [List.getElem?_map, List.getElem?_eq_getElem hj, bt8] at hu
    subst hu
    simp [List.getD]
    simp at hj
    simp [hj]⟩
end
end Go.Proofs.YtnfcjfbepaoimaaDoor
