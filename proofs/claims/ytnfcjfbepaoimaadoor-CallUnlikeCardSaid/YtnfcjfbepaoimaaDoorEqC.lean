/- '==' of two structs as one Bool: of handles, of calls as the model has them. -/
import Derived.Test.YtnfcjfbepaoimaaDoorCallU
import Derived.Laws.StructEq
set_option linter.unusedVariables false
set_option linter.unusedSimpArgs false
namespace Go.Proofs.YtnfcjfbepaoimaaDoor
open Go.RowKit

section
variable {P : Program} {d : Nat} {xs ys : Array Value} {f : Field} {fs : List Field} {a b : Value} {r s : Bool} {w : World}
theorem feq_one (hn : (f.name == "_") = false) (ha : (part f.type xs f.offset).run P w = .ok a w) (hb : (part f.type ys f.offset).run P w = .ok b w) (he : (Op.equalIn d f.type a b).run P w = .ok r w) :
    (Op.eqFields d xs ys [f]).run P w = .ok r w := by
  have h : f.name ≠ "_" := by simpa using hn
  simp only [Op.eqFields, if_pos h, Sem.run_bind, ha, hb, he, Result.andThen_ok]
  cases r <;> simp
theorem feq_more (hn : (f.name == "_") = false) (ha : (part f.type xs f.offset).run P w = .ok a w) (hb : (part f.type ys f.offset).run P w = .ok b w) (he : (Op.equalIn d f.type a b).run P w = .ok r w)
    (hr : (Op.eqFields d xs ys fs).run P w = .ok s w) : (Op.eqFields d xs ys (f :: fs)).run P w = .ok (r && s) w := by
  have h : f.name ≠ "_" := by simpa using hn
  rw [Op.eqFields]
  simp only [if_pos h, Sem.run_bind, ha, hb, he, Result.andThen_ok]
  cases r
  · simp
  · simpa using hr
theorem seq_of {t : TypeId} {fs : Array Field} (hu : P.underlying t = some (.struct fs)) (hp : P.stoodInHeld t = false) (h : (Op.eqFields d xs ys fs.toList).run P w = .ok r w) :
    (Op.equalIn (d + 1) t (.agg xs) (.agg ys)).run P w = .ok r w := by
  have hf : P.fieldsOf t = fs := by simp [Program.fieldsOf, hu]
  rw [run_equalIn_struct (P := P) w d t xs ys (by rw [hf]; exact hu) hp, hf]
  exact h
end

theorem eqHdl (d : Nat) (w : World) (x0 y0 x1 y1 : Int) :
    (Op.equalIn (d + 2) 25 (.agg #[.int .u32 x0, .int .u32 x1]) (.agg #[.int .u32 y0, .int .u32 y1])).run Tryd.prog w = .ok (x0 == y0 && x1 == y1) w := by
  refine seq_of Tryd.underlying25 (by kernel_rfl) ?_
  refine feq_more (by rfl) (by go_simp; rfl) (by go_simp; rfl) (by go_simp) ?_
  exact feq_one (by rfl) (by go_simp; rfl) (by go_simp; rfl) (by go_simp)

def eqCv (c d : CallV) : Bool :=
  ((c.client : Int) == (d.client : Int)) && (((c.xid : Int) == (d.xid : Int)) && (((c.op : Int) == (d.op : Int)) && ((((c.atI : Int) == (d.atI : Int)) && ((c.atG : Int) == (d.atG : Int))) && ((c.name.toList == d.name.toList) &&
    ((((c.toI : Int) == (d.toI : Int)) && ((c.toG : Int) == (d.toG : Int))) && ((c.toName.toList == d.toName.toList) && (((c.offset : Int) == (d.offset : Int)) && (((c.verf : Int) == (d.verf : Int)) && (((c.count : Int) == (d.count : Int)) &&
      (((c.mode : Int) == (d.mode : Int)) && ((⟨c.data.toArray⟩ : ByteArray).toList == (⟨d.data.toArray⟩ : ByteArray).toList)))))))))))
set_option maxRecDepth 100000 in
theorem eqC_in (n : Nat) (w : World) (c d : CallV) : (Op.equalIn (n + 3) 57 (.agg c.ccells) (.agg d.ccells)).run Tryd.prog w = .ok (eqCv c d) w := by
  unfold eqCv
  refine seq_of Tryd.underlying57 (by kernel_rfl) ?_
  refine feq_more (by rfl) (by go_simp; rfl) (by go_simp; rfl) (by go_simp) ?_
  refine feq_more (by rfl) (by go_simp; rfl) (by go_simp; rfl) (by go_simp) ?_
  refine feq_more (by rfl) (by go_simp; rfl) (by go_simp; rfl) (by go_simp) ?_
  refine feq_more (by rfl) (by go_simp) (by go_simp) (eqHdl (n + 0) w _ _ _ _) ?_
  refine feq_more (by rfl) (by go_simp; rfl) (by go_simp; rfl) (by go_simp) ?_
  refine feq_more (by rfl) (by go_simp) (by go_simp) (eqHdl (n + 0) w _ _ _ _) ?_
  refine feq_more (by rfl) (by go_simp; rfl) (by go_simp; rfl) (by go_simp) ?_
  refine feq_more (by rfl) (by go_simp; rfl) (by go_simp; rfl) (by go_simp) ?_
  refine feq_more (by rfl) (by go_simp; rfl) (by go_simp; rfl) (by go_simp) ?_
  refine feq_more (by rfl) (by go_simp; rfl) (by go_simp; rfl) (by go_simp) ?_
  refine feq_more (by rfl) (by go_simp; rfl) (by go_simp; rfl) (by go_simp) ?_
  exact feq_one (by rfl) (by go_simp; rfl) (by go_simp; rfl) (by go_simp)
theorem eqC_run (w : World) (c d : CallV) : (binOp .eql 57 (.agg c.ccells) (.agg d.ccells)).run Tryd.prog w = .ok (.bool (eqCv c d)) w := by
  simp only [binOp]
  simp [Op.equal, Op.maxDepth, eqC_in 9997 w c d]
theorem ba_toList (s : ByteArray) : s.toList = s.data.toList := Lib.toList_data s
theorem ba_ext {s t : ByteArray} (h : s.toList = t.toList) : s = t := by
  rw [ba_toList, ba_toList] at h
  cases s; cases t
  simp at h
  rw [h]
theorem eqCv_iff (c d : CallV) : eqCv c d = true ↔ c = d := by
  constructor
  · intro h
    simp only [eqCv, Bool.and_eq_true, beq_iff_eq] at h
    obtain ⟨h1, h2, h3, ⟨h4, h5⟩, h6, ⟨h7, h8⟩, h9, h10, h11, h12, h13, h14⟩ := h
    have e6 := ba_ext h6
    have e9 := ba_ext h9
    rw [ba_toList, ba_toList] at h14
    cases c; cases d
    simp only at *
    simp only [CallV.mk.injEq]
    exact ⟨by omega, by omega, by omega, by omega, by omega, e6, by omega, by omega, e9, by omega, by omega, by omega, by omega, by simpa using h14⟩
  · rintro rfl
    simp [eqCv]
theorem eqS_run (w : World) (s t : ByteArray) : (binOp .eql 9 (.string s) (.string t)).run Tryd.prog w = .ok (.bool (s.toList == t.toList)) w := by go_simp
theorem eqCall_val {c d : CallV} (hc : c.ok) (hd : d.ok) (bc : c.big = false) (bd : d.big = false) :
    ((⟨(pCall c).toArray⟩ : ByteArray).toList == (⟨(pCall d).toArray⟩ : ByteArray).toList) = eqCv c d := by
  rw [Bool.eq_iff_iff, eqCv_iff, ba_toList, ba_toList]
  constructor
  · intro h
    exact pCall_inj hc hd bc bd (by simpa using h)
  · rintro rfl
    simp
#print axioms eqCall_val
end Go.Proofs.YtnfcjfbepaoimaaDoor
