/- Package dir: entries' bytes. -/
import Derived.Test.YtnfcjfbepaoimaaDoorDirM
import Derived.Test.YtnfcjfbepaoimaaDoorXdrS
set_option linter.unusedVariables false
set_option linter.unusedSimpArgs false
namespace Go.Proofs.YtnfcjfbepaoimaaDoor
open Go.RowKit

def pEnt (e : Ent) : List UInt8 := pU64 e.cookie ++ pU32 e.ino ++ pU32 e.gen ++ pOpaque e.name.data.toList
def putEs (l : List Ent) : List UInt8 := l.flatMap pEnt
def putD (l : List Ent) : List UInt8 × Int := if mayL l then (putEs l, 0) else ([], 11)

theorem nameErr_size {s : ByteArray} (h : nameErr s = 0) : s.size ≤ 24 := by
  unfold nameErr at h
  split at h
  · cases h
  · rename_i hb
    have : ¬ 24 < s.size := fun h24 => hb (by simp [badName, h24])
    omega
theorem addE_name {l : List Ent} {e : Ent} (h : (addE l e).2 = 0) : nameErr e.name = 0 := by
  unfold addE at h
  split at h
  · rename_i h1; exact absurd h h1
  · rename_i h1; simpa using h1
theorem mayP_names : ∀ (r p : List Ent), mayP p r = true → ∀ e ∈ r, nameErr e.name = 0
  | [], _, _, e, he => by simp at he
  | x :: r, p, h, e, he => by
    simp only [mayP, Bool.and_eq_true, beq_iff_eq] at h
    rcases List.mem_cons.1 he with rfl | he
    · exact addE_name h.1
    · exact mayP_names r _ h.2 e he
theorem pEnt_length {e : Ent} (h : nameErr e.name = 0) : (pEnt e).length ≤ 47 := by
  have h1 := nameErr_size h
  have h2 : e.name.data.toList.length = e.name.size := by simp
  have := fill_lt e.name.data.toList.length
  simp only [pEnt, List.length_append, pU64_length, pU32_length, pOpaque_length]
  omega
theorem putEs_length : ∀ {l : List Ent}, (∀ e ∈ l, nameErr e.name = 0) → (putEs l).length ≤ 47 * l.length
  | [], _ => by simp [putEs]
  | x :: l, h => by
    have h1 := pEnt_length (h x (by simp))
    have h2 := putEs_length (l := l) (fun e he => h e (by simp [he]))
    simp only [putEs, List.flatMap_cons, List.length_append, List.length_cons] at h2 ⊢
    omega
theorem putEs_snoc (l : List Ent) (e : Ent) : putEs (l ++ [e]) = putEs l ++ pEnt e := by simp [putEs]

/-- Bytes in memory of one's own, and an error. -/
def OutBE (S : Nat → Obj → Prop) (W : World) (x : List UInt8 × Int) : Ending → World → Prop := fun r W' =>
  ∃ a c, r = .returned (.tuple #[.slice a x.1.length c, .int .i64 x.2]) ∧ x.1.length ≤ c ∧ Rd W' W'.heap.size a (bys x.1) ∧ Kp S W W' ∧ W'.ownsRow W.heap.size 5 1 (.slice a x.1.length c) x.1.length (bys x.1)

set_option maxRecDepth 100000 in
set_option maxHeartbeats 1000000 in
theorem dput_any (W : World) (N : Nat) (a : Option Addr) (c : Nat) (l : List Ent) (h : Rd W N a (eCells l)) (hN : N ≤ W.heap.size) (hl : l.length ≤ 274877906944) (hok : ∀ e ∈ l, e.ok) :
    Calls Tryd.prog 20 #[.slice a l.length c] W (OutBE Nn W (putD l)) := by
  have hcv := @Lib.run_convert_string_bytes Tryd.prog
  cases hm : mayL l with
  | false =>
    have hfin : Hid (putD l = ([], 11)) := by simp [Hid, putD, hm]
    go_enter Tryd.func20, Tryd.ntmps20
    go_wp2_with fail
    refine (may_any W N a c l h hN (by omega)).mono ?_
    rintro e W1 ⟨rfl, k1⟩
    rw [hm]
    have k1 := Hid.mk k1
    clear h hm
    go_wp2_with fail
    go_ret2
    rw [hfin.out]
    exact ⟨none, 0, rfl, Nat.le_refl _, Rd.nil _ _ _, k1.out, World.ownsRow_nil _ _ _ _⟩
  | true =>
    have hfin : Hid (putD l = (putEs l, 0)) := by simp [Hid, putD, hm]
    have hnm := Hid.mk (mayP_names l [] hm)
    go_enter Tryd.func20, Tryd.ntmps20
    go_wp2_with fail
    refine (may_any W N a c l h hN (by omega)).mono ?_
    rintro e W1 ⟨rfl, k1⟩
    rw [hm]
    have h1 := h.kp k1 (fun _ _ _ x => x)
    have hN1 := Nat.le_trans hN k1.size
    have k1 := Hid.mk k1
    clear h hm
    go_wp2_with fail
    refine (sNew W1).mono ?_
    rintro e W2 ⟨wb, rfl, hp, k2⟩
    have hp := Hid.mk hp
    clear k2
    go_wp2_with fail
    go_loopw [13] (fun i wr => ∃ k : Nat, k ≤ l.length ∧ i = .int .i64 k ∧ PutS W1 wr wb (putEs (l.take k))) (fun i _ => l.length - (intOf i).toNat)
    case atStart => exact ⟨0, Nat.zero_le _, rfl, by simpa [putEs] using hp.out⟩
    case round =>
      obtain ⟨k, hk, rfl, hs⟩ := hrel
      by_cases hlt : k < l.length
      · obtain ⟨b, o, rfl, hb, c0, c1, c2, c3⟩ := eRd (h1.kp hs.2 (fun _ _ _ x => x)) k hlt
        have hsn := Hid.mk (take_snoc l k hlt)
        have hoke : (l[k]).ok := hok _ (List.getElem_mem hlt)
        have hen := hnm.out _ (List.getElem_mem hlt)
        have hsz := nameErr_size hen
        have hlen : (putEs (l.take k)).length ≤ 47 * l.length := Nat.le_trans (putEs_length (fun e he => hnm.out e (List.mem_of_mem_take he))) (by simp; omega)
        have hnx : Hid (putEs (l.take (k + 1)) = putEs (l.take k) ++ pEnt l[k]) := by unfold Hid; rw [hsn.out, putEs_snoc]
        clear hsn
        generalize putEs (l.take k) = d at *
        generalize l[k] = en at *
        obtain ⟨o1, o2, o3⟩ := hoke
        have hlt2 := hs.lt.1
        have hs1 : Hid (PutS W1 (wr.alloc (.cells #[.int .u64 (en.cookie : Int), .int .u32 (en.ino : Int), .int .u32 (en.gen : Int), .string en.name] 78)) wb d) := hs.nn ((Kp.refl _ _).alloc _)
        have hbk : entBlk (wr.alloc (.cells #[.int .u64 (en.cookie : Int), .int .u32 (en.ino : Int), .int .u32 (en.gen : Int), .string en.name] 78)) wr.heap.size en := blk_new _ _
        have hne : wr.heap.size ≠ wb := by omega
        have hty : ¬ Obj.isTy 5 (.cells #[.int .u64 (en.cookie : Int), .int .u32 (en.ino : Int), .int .u32 (en.gen : Int), .string en.name] 78 (0, 0)) := by simp [Obj.isTy]
        have hty := Hid.mk hty
        clear hs
        go_wp2_with fail
        refine (sU64 hs1.out (by omega) en.cookie o1).mono ?_
        rintro e W3 ⟨rfl, hs3, q3⟩
        have hb3 : entBlk W3 wr.heap.size en := q3.2 _ _ hbk hne hty.out
        have g1 := hb3.c1
        have hs3 := Hid.mk hs3
        go_wp2_with fail
        refine (sU32 hs3.out (by simp [pU64_length]; omega) en.ino o2).mono ?_
        rintro e W4 ⟨rfl, hs4, q4⟩
        have hb4 : entBlk W4 wr.heap.size en := q4.2 _ _ hb3 hne hty.out
        have g2 := hb4.c2
        have hs4 := Hid.mk hs4
        go_wp2_with fail
        refine (sU32 hs4.out (by simp [pU64_length, pU32_length]; omega) en.gen o3).mono ?_
        rintro e W5 ⟨rfl, hs5, q5⟩
        have hb5 : entBlk W5 wr.heap.size en := q5.2 _ _ hb4 hne hty.out
        have g3 := hb5.c3
        have hs5 := Hid.mk hs5
        have hcv := hcv W5 9 29 5 en.name Tryd.underlying9 Tryd.underlying29 Tryd.underlying5
        go_wp2_with fail
        refine (sStr hs5.out (s2b_kp W5 _ _) (by simp [pU64_length, pU32_length]; omega) _ en.name (s2b_rd W5 _ _) (by omega)).mono ?_
        rintro e W6 ⟨rfl, hs6, q6⟩
        have hs6 := Hid.mk hs6
        clear hb3 hb4 hb5 g1 g2 g3 q3 q4 q5 q6 c0 c1 c2 c3
        go_wp2_with fail
        go_roundw
        case rel => exact ⟨k + 1, by omega, by go_num, by rw [hnx.out]; simpa [pEnt] using hs6.out⟩
        case measure => simp [intOf]; omega
      · obtain rfl : k = l.length := by omega
        have hs := Hid.mk hs
        have hlen : (putEs (l.take l.length)).length ≤ 47 * l.length := Nat.le_trans (putEs_length (fun e he => hnm.out e (List.mem_of_mem_take he))) (by simp)
        go_wp2_with fail
        refine (sOut hs.out (by omega)).mono ?_
        rintro e W3 ⟨a3, c3, rfl, hc3, hr3, k3, ow3⟩
        have h3 := Hid.mk hr3
        replace ow3 := Hid.mk (own_base (base' := W.heap.size) ow3 (k1.out.trans hs.out.2).size)
        have k3 := Hid.mk (k1.out.trans (hs.out.2.trans k3))
        clear hr3
        go_wp2_with fail
        go_ret2
        rw [hfin.out]
        simp only [List.take_length] at h3 hc3 ow3 ⊢
        exact ⟨a3, c3, rfl, hc3, h3.out, k3.out, ow3.out⟩
end Go.Proofs.YtnfcjfbepaoimaaDoor
