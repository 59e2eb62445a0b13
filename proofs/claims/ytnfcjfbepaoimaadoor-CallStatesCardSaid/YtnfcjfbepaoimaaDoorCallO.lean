/- The law CallOps: its walk. -/
import Derived.Test.YtnfcjfbepaoimaaDoorCallT
set_option linter.unusedVariables false
set_option linter.unusedSimpArgs false
namespace Go.Proofs.YtnfcjfbepaoimaaDoor
open Go.RowKit

def cOp (x : Nat) : CallV := { client := 0, xid := 0, op := x, atI := 0, atG := 0, name := ⟨#[]⟩, toI := 0, toG := 0, toName := ⟨#[]⟩, offset := 0, verf := 0, count := 0, mode := 0, data := [] }
theorem cOp_len : ∀ x, 1 ≤ x → x ≤ 16 → (pCall (cOp x)).length = 64
  | 0, h, _ => absurd h (by decide)
  | 1, _, _ => by kernel_rfl
  | 2, _, _ => by kernel_rfl
  | 3, _, _ => by kernel_rfl
  | 4, _, _ => by kernel_rfl
  | 5, _, _ => by kernel_rfl
  | 6, _, _ => by kernel_rfl
  | 7, _, _ => by kernel_rfl
  | 8, _, _ => by kernel_rfl
  | 9, _, _ => by kernel_rfl
  | 10, _, _ => by kernel_rfl
  | 11, _, _ => by kernel_rfl
  | 12, _, _ => by kernel_rfl
  | 13, _, _ => by kernel_rfl
  | 14, _, _ => by kernel_rfl
  | 15, _, _ => by kernel_rfl
  | 16, _, _ => by kernel_rfl
  | _ + 17, _, h => absurd h (by omega)
theorem cOp_get : ∀ x, 1 ≤ x → x ≤ 16 → getC (pCall (cOp x)) = (cOp x, 0)
  | 0, h, _ => absurd h (by decide)
  | 1, _, _ => by kernel_rfl
  | 2, _, _ => by kernel_rfl
  | 3, _, _ => by kernel_rfl
  | 4, _, _ => by kernel_rfl
  | 5, _, _ => by kernel_rfl
  | 6, _, _ => by kernel_rfl
  | 7, _, _ => by kernel_rfl
  | 8, _, _ => by kernel_rfl
  | 9, _, _ => by kernel_rfl
  | 10, _, _ => by kernel_rfl
  | 11, _, _ => by kernel_rfl
  | 12, _, _ => by kernel_rfl
  | 13, _, _ => by kernel_rfl
  | 14, _, _ => by kernel_rfl
  | 15, _, _ => by kernel_rfl
  | 16, _, _ => by kernel_rfl
  | _ + 17, _, h => absurd h (by omega)
theorem cOp_bad : ∀ x, 1 ≤ x → x ≤ 16 → getC ((pCall (cOp x)).set 11 17) = (noCall, 11)
  | 0, h, _ => absurd h (by decide)
  | 1, _, _ => by kernel_rfl
  | 2, _, _ => by kernel_rfl
  | 3, _, _ => by kernel_rfl
  | 4, _, _ => by kernel_rfl
  | 5, _, _ => by kernel_rfl
  | 6, _, _ => by kernel_rfl
  | 7, _, _ => by kernel_rfl
  | 8, _, _ => by kernel_rfl
  | 9, _, _ => by kernel_rfl
  | 10, _, _ => by kernel_rfl
  | 11, _, _ => by kernel_rfl
  | 12, _, _ => by kernel_rfl
  | 13, _, _ => by kernel_rfl
  | 14, _, _ => by kernel_rfl
  | 15, _, _ => by kernel_rfl
  | 16, _, _ => by kernel_rfl
  | _ + 17, _, h => absurd h (by omega)
def cnt (k : Nat) : Nat := (List.range k).countP chg
theorem cnt_succ (k : Nat) : cnt (k + 1) = cnt k + (if chg k then 1 else 0) := by simp [cnt, List.range_succ, List.countP_append, List.countP_cons]
theorem cnt_le (k : Nat) : cnt k ≤ k := by have := List.countP_le_length (p := chg) (l := List.range k); simpa [cnt] using this

/-- A byte of one's own row is turned. -/
theorem own_set {w : World} {base e n : Nat} {a : Option Addr} {q : Nat} {l : List UInt8} (h : w.ownsRow base e 1 (.slice a n q) n (bys l)) (hn : n = l.length) (i : Nat) (hi : i < l.length) (x : UInt8) :
    ∃ g, a = some ⟨g, 0, none⟩ ∧ base ≤ g ∧ (w.cell? ⟨g, i, none⟩).isSome = true ∧ w.frozen? ⟨g, i, none⟩ = false ∧ Rd (w.setCell ⟨g, i, none⟩ (bt8 x)) (w.setCell ⟨g, i, none⟩ (bt8 x)).heap.size a (bys (l.set i x)) := by
  subst hn
  rcases h.2 with ⟨hv, hz⟩ | ⟨g, cap, cur, hv, hb, hg, hnc, hm, hs, ht⟩
  · simp at hv; omega
  · simp at hv
    obtain ⟨rfl, rfl⟩ := hv
    have hsz : l.length ≤ cur.size := by omega
    refine ⟨g, rfl, hb, ?_, frozen_blk hg i, fun _ => ⟨g, 0, rfl, ?_, fun j u hu => ?_⟩⟩
    · rw [cell_blk hg, Array.getElem?_eq_getElem (by omega)]; rfl
    · have := lt_of_blk hg; simpa [World.setCell] using this
    · rw [Nat.zero_add, cell_blk (blk_set hg i _)]
      have hj : j < l.length := by have := (List.getElem?_eq_some_iff.1 hu).1; simpa using this
      have hc : cur[j]? = (bys l)[j]? := by
        rw [← ht, List.getElem?_take, if_pos (by simp at *; omega), Array.getElem?_toList]
      simp only [List.getElem?_map, List.getElem?_set] at hu
      rw [Array.getElem?_setIfInBounds]
      by_cases e : i = j
      · subst e
        simp [hj] at hu
        rw [if_pos rfl, if_pos (by omega)]
        simpa using hu
      · rw [if_neg e] at hu ⊢
        rw [hc]
        simpa using hu

set_option maxRecDepth 100000 in
set_option maxHeartbeats 4000000 in
theorem callOps_bad (W : World) (hT0 : TabC W) (x : Nat) (hx : x < 4294967296) (hx2 : x = 0 ∨ 17 ≤ x) : Calls Tryd.prog 6 #[.int .u32 (x : Int)] W fun r W' => r = .returned (.bool true) ∧ Kp Nn W W' := by
  have hk : knownOp x = false := by simp [knownOp]; omega
  have ep : putC (cOp x) = ([], 1) := by simp [putC, CallV.big, cOp, hk]
  have hchg : chg x = false := by
    rcases hx2 with h0 | h17
    · subst h0; rfl
    · simp [chg, List.getD, chgL, h17]
  replace hchg := Hid.mk hchg
  replace ep := Hid.mk ep
  replace hk := Hid.mk hk
  rcases hx2 with h0 | h17
  · subst h0
    go_enter Tryd.func6, Tryd.ntmps6
    go_wp2_with fail
    refine (awake_any W hT0).mono ?_
    rintro e W1 ⟨rfl, k1⟩
    have hT1 := hT0.kp k1
    clear hT0
    go_wp2_with fail
    refine (putCall_any W1 0 none 0 (cOp 0) (by simp [CallV.ok, cOp] <;> omega) (Rd.nil _ _ _) (Nat.zero_le _)).mono ?_
    rw [ep.out]
    rintro e W2 ⟨a2, q2, rfl, _, _, k2, _⟩
    have hT := Hid.mk (hT1.kp k2)
    replace k2 := Hid.mk (k1.trans k2)
    clear k1 hT1
    go_wp2_with (go_at_call 18; refine (changes_any _ hT.out 0 hx).mono ?_; rintro e W6 ⟨rfl, rfl⟩; rw [hchg.out])
    go_loop [7, 8] (fun n k => ∃ j : Nat, j ≤ 40 ∧ k = .int .u32 (j : Int) ∧ n = .int .i64 (cnt j : Int)) (fun _ k => 40 - (intOf k).toNat)
    case atStart => exact ⟨0, by omega, rfl, rfl⟩
    case round =>
      obtain ⟨j, hj, rfl, rfl⟩ := hrel
      have hc40 := cnt_le j
      by_cases hlt : j < 40
      · cases hc : chg j with
        | true =>
          have hs : Hid (cnt (j + 1) = cnt j + 1) := by unfold Hid; rw [cnt_succ, hc]; rfl
          replace hc := Hid.mk hc
          go_wp2_with (go_at_call 18; refine (changes_any _ hT.out j (by omega)).mono ?_; rintro e W6 ⟨rfl, rfl⟩; rw [hc.out])
          go_round
          case rel => exact ⟨j + 1, by omega, by go_num, by rw [hs.out]; go_num⟩
          case measure => simp [intOf]; omega
        | false =>
          have hs : Hid (cnt (j + 1) = cnt j) := by unfold Hid; rw [cnt_succ, hc]; rfl
          replace hc := Hid.mk hc
          go_wp2_with (go_at_call 18; refine (changes_any _ hT.out j (by omega)).mono ?_; rintro e W6 ⟨rfl, rfl⟩; rw [hc.out])
          go_round
          case rel => exact ⟨j + 1, by omega, by go_num, by rw [hs.out]⟩
          case measure => simp [intOf]; omega
      · have hj40 : j = 40 := by omega
        have h9 : cnt j = 9 := by rw [hj40]; rfl
        clear hj40
        go_wp2_with fail
        all_goals first
          | (exfalso; omega)
          | (go_ret; exact ⟨rfl, k2.out⟩)
  · have hx16 : ¬ ((x : Int) ≤ 16) := by omega
    go_enter Tryd.func6, Tryd.ntmps6
    go_wp2_with fail
    refine (awake_any W hT0).mono ?_
    rintro e W1 ⟨rfl, k1⟩
    have hT1 := hT0.kp k1
    clear hT0
    go_wp2_with fail
    refine (putCall_any W1 0 none 0 (cOp x) (by simp [CallV.ok, cOp] <;> omega) (Rd.nil _ _ _) (Nat.zero_le _)).mono ?_
    rw [ep.out]
    rintro e W2 ⟨a2, q2, rfl, _, _, k2, _⟩
    have hT := Hid.mk (hT1.kp k2)
    replace k2 := Hid.mk (k1.trans k2)
    clear k1 hT1
    go_wp2_with (go_at_call 18; refine (changes_any _ hT.out x hx).mono ?_; rintro e W6 ⟨rfl, rfl⟩; rw [hchg.out])
    go_loop [7, 8] (fun n k => ∃ j : Nat, j ≤ 40 ∧ k = .int .u32 (j : Int) ∧ n = .int .i64 (cnt j : Int)) (fun _ k => 40 - (intOf k).toNat)
    case atStart => exact ⟨0, by omega, rfl, rfl⟩
    case round =>
      obtain ⟨j, hj, rfl, rfl⟩ := hrel
      have hc40 := cnt_le j
      by_cases hlt : j < 40
      · cases hc : chg j with
        | true =>
          have hs : Hid (cnt (j + 1) = cnt j + 1) := by unfold Hid; rw [cnt_succ, hc]; rfl
          replace hc := Hid.mk hc
          go_wp2_with (go_at_call 18; refine (changes_any _ hT.out j (by omega)).mono ?_; rintro e W6 ⟨rfl, rfl⟩; rw [hc.out])
          go_round
          case rel => exact ⟨j + 1, by omega, by go_num, by rw [hs.out]; go_num⟩
          case measure => simp [intOf]; omega
        | false =>
          have hs : Hid (cnt (j + 1) = cnt j) := by unfold Hid; rw [cnt_succ, hc]; rfl
          replace hc := Hid.mk hc
          go_wp2_with (go_at_call 18; refine (changes_any _ hT.out j (by omega)).mono ?_; rintro e W6 ⟨rfl, rfl⟩; rw [hc.out])
          go_round
          case rel => exact ⟨j + 1, by omega, by go_num, by rw [hs.out]⟩
          case measure => simp [intOf]; omega
      · have hj40 : j = 40 := by omega
        have h9 : cnt j = 9 := by rw [hj40]; rfl
        clear hj40
        go_wp2_with fail
        all_goals first
          | (exfalso; omega)
          | (go_ret; exact ⟨rfl, k2.out⟩)
          | (exfalso; have hh : (!decide ((x : Int) ≤ 16)) = false := by assumption
             simp at hh; omega)

set_option maxRecDepth 100000 in
set_option maxHeartbeats 1000000 in
theorem callOps_good (W : World) (hT0 : TabC W) (x : Nat) (h1 : 1 ≤ x) (h16 : x ≤ 16) : Calls Tryd.prog 6 #[.int .u32 (x : Int)] W fun r W' => r = .returned (.bool true) ∧ Kp Nn W W' := by
  have hk : knownOp x = true := by simp [knownOp]; omega
  have ep : putC (cOp x) = (pCall (cOp x), 0) := by simp [putC, CallV.big, cOp, hk]; exact ⟨rfl, rfl⟩
  have elen := cOp_len x h1 h16
  have eget := cOp_get x h1 h16
  have ebad := cOp_bad x h1 h16
  go_enter Tryd.func6, Tryd.ntmps6
  go_wp2_with fail
  refine (awake_any W hT0).mono ?_
  rintro e W1 ⟨rfl, k1⟩
  have hT1 := hT0.kp k1
  clear hT0
  replace ep := Hid.mk ep
  replace elen := Hid.mk elen
  replace eget := Hid.mk eget
  replace ebad := Hid.mk ebad
  replace hk := Hid.mk hk
  go_wp2_with fail
  refine (putCall_any W1 0 none 0 (cOp x) (by simp [CallV.ok, cOp]; omega) (Rd.nil _ _ _) (Nat.zero_le _)).mono ?_
  rw [ep.out]
  generalize pCall (cOp x) = L at *
  rintro e W2 ⟨a2, q2, rfl, hq2, hr2, k2, ow2⟩
  dsimp only at hq2 hr2 ow2 ⊢
  have hT := Hid.mk (hT1.kp k2)
  have hl64 : L.length ≤ 64 := by rw [elen.out]; omega
  have hl11 : 11 < L.length := by rw [elen.out]; omega
  obtain ⟨g, rfl, hgb, hgs, hgf, hset⟩ := own_set ow2 rfl 11 (by omega) 17
  have hs01 := k1.size
  replace k2 := Hid.mk (k1.trans k2)
  replace hr2 := Hid.mk hr2
  replace ow2 := Hid.mk ow2
  clear k1 hT1 hset hgs hgf
  go_wp2_with fail
  go_loop [7, 8] (fun n k => ∃ j : Nat, j ≤ 40 ∧ k = .int .u32 (j : Int) ∧ n = .int .i64 (cnt j : Int)) (fun _ k => 40 - (intOf k).toNat)
  case atStart => exact ⟨0, by omega, rfl, rfl⟩
  case round =>
    obtain ⟨j, hj, rfl, rfl⟩ := hrel
    have hc40 := cnt_le j
    by_cases hlt : j < 40
    · cases hc : chg j with
      | true =>
        have hs : Hid (cnt (j + 1) = cnt j + 1) := by unfold Hid; rw [cnt_succ, hc]; rfl
        replace hc := Hid.mk hc
        go_wp2_with (go_at_call 18; refine (changes_any _ hT.out j (by omega)).mono ?_; rintro e W6 ⟨rfl, rfl⟩; rw [hc.out])
        go_round
        case rel => exact ⟨j + 1, by omega, by go_num, by rw [hs.out]; go_num⟩
        case measure => simp [intOf]; omega
      | false =>
        have hs : Hid (cnt (j + 1) = cnt j) := by unfold Hid; rw [cnt_succ, hc]; rfl
        replace hc := Hid.mk hc
        go_wp2_with (go_at_call 18; refine (changes_any _ hT.out j (by omega)).mono ?_; rintro e W6 ⟨rfl, rfl⟩; rw [hc.out])
        go_round
        case rel => exact ⟨j + 1, by omega, by go_num, by rw [hs.out]⟩
        case measure => simp [intOf]; omega
    · have hj40 : j = 40 := by omega
      have h9 : cnt j = 9 := by rw [hj40]; rfl
      clear hj40
      go_wp2_with fail
      refine (getCall_any W2 _ _ q2 L hr2.out (by omega)).mono ?_
      rw [eget.out]
      rintro e W3 ⟨a3, q3, rfl, hq3, hr3, k3⟩
      have ow3 := own_kp ow2.out k3 (fun _ _ _ _ x => x)
      obtain ⟨g', eg', hgb', hgs, hgf, hset⟩ := own_set ow3 rfl 11 (by omega) 17
      cases eg'
      obtain ⟨v11, hgs⟩ := Option.isSome_iff_exists.1 hgs
      have hlt3 : g < W3.heap.size := World.block_lt_of_cell? W3 _ hgs
      have hset : Rd (W3.setCell ⟨g, 11, none⟩ (.int .u8 17)) (W3.setCell ⟨g, 11, none⟩ (.int .u8 17)).heap.size (some ⟨g, 0, none⟩) (bys (L.set 11 17)) := hset
      have k9 : Kp Nn W ((W3.setCell ⟨g, 11, none⟩ (.int .u8 17)).alloc (.cells #[.int .u32 0, .int .u32 0, .int .u32 (x : Int), .int .u32 0, .int .u32 0, .string ⟨#[]⟩, .int .u32 0, .int .u32 0, .string ⟨#[]⟩, .int .u64 0, .int .u64 0, .int .u32 0, .int .u32 0, .slice a3 0 q3] 50)) := ((k2.out.trans k3).setCell (a := ⟨g, 11, none⟩) (.inl (show W.heap.size ≤ g by omega)) _).alloc _
      replace hset := hset.alloc (.cells #[.int .u32 0, .int .u32 0, .int .u32 (x : Int), .int .u32 0, .int .u32 0, .string ⟨#[]⟩, .int .u32 0, .int .u32 0, .string ⟨#[]⟩, .int .u64 0, .int .u64 0, .int .u32 0, .int .u32 0, .slice a3 0 q3] 50)
      have hcx : ((W3.setCell ⟨g, 11, none⟩ (.int .u8 17)).alloc (.cells #[.int .u32 0, .int .u32 0, .int .u32 (x : Int), .int .u32 0, .int .u32 0, .string ⟨#[]⟩, .int .u32 0, .int .u32 0, .string ⟨#[]⟩, .int .u64 0, .int .u64 0, .int .u32 0, .int .u32 0, .slice a3 0 q3] 50)).cell? ⟨W3.heap.size, 2, none⟩ = some (.int .u32 (x : Int)) := by
        have := cell_blk (blk_new (W3.setCell ⟨g, 11, none⟩ (.int .u8 17)) (.cells #[.int .u32 0, .int .u32 0, .int .u32 (x : Int), .int .u32 0, .int .u32 0, .string ⟨#[]⟩, .int .u32 0, .int .u32 0, .string ⟨#[]⟩, .int .u64 0, .int .u64 0, .int .u32 0, .int .u32 0, .slice a3 0 q3] 50)) 2
        have e : (W3.setCell ⟨g, 11, none⟩ (.int .u8 17)).heap.size = W3.heap.size := by simp [World.setCell]
        rw [e] at this
        exact this
      replace hset := Hid.mk hset
      replace hcx := Hid.mk hcx
      replace k9 := Hid.mk k9
      dsimp only [CallV.cells, cOp] at hgs ⊢
      clear hr3 hq3 ow3 k3 hT ow2 hr2
      go_wp2_with fail
      generalize (W3.setCell ⟨g, 11, none⟩ (.int .u8 17)).alloc (.cells #[.int .u32 0, .int .u32 0, .int .u32 (x : Int), .int .u32 0, .int .u32 0, .string ⟨#[]⟩, .int .u32 0, .int .u32 0, .string ⟨#[]⟩, .int .u64 0, .int .u64 0, .int .u32 0, .int .u32 0, .slice a3 0 q3] 50) = W5 at *
      have hgc := getCall_any W5 _ _ q2 (L.set 11 17) hset.out (by simp; omega)
      rw [List.length_set, ebad.out] at hgc
      refine hgc.mono ?_
      rintro e W6 ⟨a6, q6, rfl, hq6, hr6, k6⟩
      have hcx6 := k6.cell hcx.out (fun _ x => x)
      have hlt6 := World.block_lt_of_cell? W6 _ hcx6
      replace k9 := Hid.mk (k9.out.trans k6)
      clear hgc hr6 k6
      dsimp only [CallV.cells, noCall]
      go_wp2_with fail
      go_ret
      exact ⟨by simp, k9.out.alloc _⟩

theorem callOps_any (W : World) (hT : TabC W) (x : Nat) (hx : x < 4294967296) : Calls Tryd.prog 6 #[.int .u32 (x : Int)] W fun r W' => r = .returned (.bool true) ∧ Kp Nn W W' := by
  by_cases h : 1 ≤ x ∧ x ≤ 16
  · exact callOps_good W hT x h.1 h.2
  · exact callOps_bad W hT x hx (by omega)
end Go.Proofs.YtnfcjfbepaoimaaDoor
