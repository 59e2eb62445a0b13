/- Package xdr: Opaque of a reader. -/
import Derived.Test.YtnfcjfbepaoimaaDoorXdrO
set_option linter.unusedVariables false
set_option linter.unusedSimpArgs false
namespace Go.Proofs.YtnfcjfbepaoimaaDoor
open Go.RowKit

theorem nought_any (W : World) (x : Nat) (hx : x < 256) :
    Calls Tryd.prog 63 #[.int .u8 (x : Int)] W fun r W' => r = .returned (.bool ((x : Int) != 0)) ∧ W = W' := by
  go_enter Tryd.func63, Tryd.ntmps63
  go_wp2
  go_ret
  exact ⟨rfl, rfl⟩

def nzI (l : List UInt8) : Int := match l.findIdx? (· != 0) with | some i => (i : Int) | none => -1

theorem indexB_any (W : World) (N : Nat) (a : Option Addr) (c : Nat) (l : List UInt8) (h : Rd W N a (bys l)) (hl : l.length ≤ 70368744177664) :
    Calls Tryd.prog 71 #[.slice a l.length c, .func (.func 63) #[] #[]] W fun r W' => r = .returned (.int .i64 (nzI l)) ∧ W = W' := by
  go_enter Tryd.func71, Tryd.ntmps71
  go_wp2_with fail
  go_loop [8] (fun i => ∃ k : Nat, k ≤ l.length ∧ i = .int .i64 k ∧ (∀ j, j < k → l[j]? = some 0)) (fun i => l.length - (intOf i).toNat)
  case atStart => exact ⟨0, Nat.zero_le _, rfl, fun j hj => absurd hj (Nat.not_lt_zero j)⟩
  case round =>
    obtain ⟨k, hk, rfl, hz⟩ := hrel
    have hz := Hid.mk hz
    by_cases hlt : k < l.length
    · obtain ⟨b, o, rfl, hb, hcell⟩ := h.at k (bt8 l[k]) (by simp [List.getElem?_eq_getElem hlt])
      simp only [bt8] at hcell
      have hl8 := (l[k]).toNat_lt
      by_cases h0 : l[k].toNat = 0
      · have hn : ((l[k].toNat : Int) != 0) = false := by simpa using h0
        have hz' := Hid.mk h0
        clear h0
        go_wp2_with (go_at_call 63; refine (nought_any _ _ (by omega)).mono ?_; rintro e W' ⟨rfl, rfl⟩)
        go_round
        case rel =>
          refine ⟨k + 1, by omega, by go_num, fun j hj => ?_⟩
          by_cases hjk : j < k
          · exact hz.out j hjk
          · have : j = k := by omega
            subst this
            rw [List.getElem?_eq_getElem hlt]
            exact congrArg some (UInt8.toNat_inj.1 hz'.out)
        case measure => simp [intOf]; omega
      · have hn : ((l[k].toNat : Int) != 0) = true := by simpa using h0
        have hfin : Hid (nzI l = (k : Int)) := by
          have e : l.findIdx? (· != 0) = some k := by
            rw [List.findIdx?_eq_some_iff_getElem]
            refine ⟨hlt, by simpa using fun e => h0 (by rw [e]; rfl), fun j hj => ?_⟩
            have := hz.out j hj
            rw [List.getElem?_eq_getElem (by omega)] at this
            injection this with this
            simp [this]
          simp [Hid, nzI, e]
        clear h0
        go_wp2_with (go_at_call 63; refine (nought_any _ _ (by omega)).mono ?_; rintro e W' ⟨rfl, rfl⟩)
        go_ret
        rw [hfin.out]
        exact ⟨rfl, rfl⟩
    · have hkl : k = l.length := by omega
      have hfin : Hid (nzI l = -1) := by
        have e : l.findIdx? (· != 0) = none := by
          rw [List.findIdx?_eq_none_iff]
          intro x hx
          obtain ⟨j, hj, rfl⟩ := List.getElem_of_mem hx
          have := hz.out j (by omega)
          rw [List.getElem?_eq_getElem hj] at this
          injection this with this
          simp [this]
        simp [Hid, nzI, e]
      clear hkl
      go_wp2_with fail
      go_ret
      rw [hfin.out]
      exact ⟨rfl, rfl⟩

theorem nzI_any (l : List UInt8) : l.any (· != 0) = decide (0 ≤ nzI l) := by
  unfold nzI
  cases e : l.findIdx? (· != 0) with
  | some i =>
    rw [List.findIdx?_eq_some_iff_getElem] at e
    obtain ⟨h, h1, _⟩ := e
    have : l.any (· != 0) = true := List.any_eq_true.2 ⟨_, List.getElem_mem h, h1⟩
    rw [this]; simp
  | none =>
    rw [List.findIdx?_eq_none_iff] at e
    have : l.any (· != 0) = false := by
      rw [List.any_eq_false]; intro x hx; rw [e x hx]; decide
    rw [this]; rfl

theorem containsB_any (W : World) (N : Nat) (a : Option Addr) (c : Nat) (l : List UInt8) (h : Rd W N a (bys l)) (hl : l.length ≤ 70368744177664) :
    Calls Tryd.prog 62 #[.slice a l.length c, .func (.func 63) #[] #[]] W fun r W' => r = .returned (.bool (l.any (· != 0))) ∧ W = W' := by
  have e := Hid.mk (nzI_any l)
  go_enter Tryd.func62, Tryd.ntmps62
  go_wp2_with fail
  refine (indexB_any W N a c l h hl).mono ?_
  rintro e W1 ⟨rfl, rfl⟩
  clear h
  generalize nzI l = i at *
  go_wp2_with fail
  go_ret
  rw [e.out]
  exact ⟨rfl, rfl⟩

theorem fill_any (W : World) (n : Nat) (hn : n ≤ 70368744177664) :
    Calls Tryd.prog 53 #[.int .i64 (n : Int)] W fun r W' => r = .returned (.int .i64 (fill n : Nat)) ∧ W = W' := by
  go_enter Tryd.func53, Tryd.ntmps53
  go_wp2
  go_ret
  have e : ((4 : Int) - (n : Int) % 4) % 4 = ((fill n : Nat) : Int) := by unfold fill; omega
  rw [e]
  exact ⟨rfl, rfl⟩

def OpaqueP (W : World) (rb N : Nat) (x : List UInt8 × RS) : Ending → World → Prop := fun r W' =>
  ∃ a c, r = .returned (.slice a x.1.length c) ∧ x.1.length ≤ c ∧ Rd W' W'.heap.size a (bys x.1) ∧ RD W' rb N x.2 ∧ Kp (On rb) W W'

theorem rOpaque_1 {s s1 : RS} {n m : Nat} (hx : rU32 s = (n, s1)) (h : s1.2 ≠ 0) : rOpaque s m = ([], s1) := by simp [rOpaque, hx, h]
theorem rOpaque_2 {s s1 : RS} {n m : Nat} (hx : rU32 s = (n, s1)) (h : s1.2 = 0) (hm : m < n) : rOpaque s m = ([], rFail s1 13) := by simp [rOpaque, hx, h, hm, rFail]
theorem rOpaque_3 {s s1 s2 : RS} {n m : Nat} {b : List UInt8} (hx : rU32 s = (n, s1)) (h : s1.2 = 0) (hm : ¬ m < n) (ht : rTake s1 (n + fill n) = (b, s2)) (h2 : s2.2 ≠ 0) : rOpaque s m = ([], s2) := by simp [rOpaque, hx, h, hm, ht, h2]
theorem rOpaque_4 {s s1 s2 : RS} {n m : Nat} {b : List UInt8} (hx : rU32 s = (n, s1)) (h : s1.2 = 0) (hm : ¬ m < n) (ht : rTake s1 (n + fill n) = (b, s2)) (h2 : s2.2 = 0) (ha : (b.drop n).any (· != 0) = true) : rOpaque s m = ([], rFail s2 11) := by
  simp only [rOpaque, hx, h, hm, ht, h2, ha, rFail]; simp
theorem rOpaque_5 {s s1 s2 : RS} {n m : Nat} {b : List UInt8} (hx : rU32 s = (n, s1)) (h : s1.2 = 0) (hm : ¬ m < n) (ht : rTake s1 (n + fill n) = (b, s2)) (h2 : s2.2 = 0) (ha : (b.drop n).any (· != 0) = false) : rOpaque s m = (b.take n, s2) := by
  simp only [rOpaque, hx, h, hm, ht, h2, ha]; simp
theorem rTake_ok {s s2 : RS} {n : Nat} {b : List UInt8} (ht : rTake s n = (b, s2)) (h2 : s2.2 = 0) : b.length = n := by
  unfold rTake at ht
  split at ht
  · injection ht with h1 h3; subst h3; contradiction
  · split at ht
    · injection ht with h1 h3; subst h3; simp at h2
    · injection ht with h1 h3; subst h1; simp; omega
theorem fill_lt (n : Nat) : fill n < 4 := by unfold fill; omega

theorem opaque_any (W : World) (rb N : Nat) (s : RS) (h : RD W rb N s) (m : Int) (hm0 : 0 ≤ m) (hm : m ≤ 4096) :
    Calls Tryd.prog 38 #[.pointer (some ⟨rb, 0, none⟩), .int .i64 m] W (OpaqueP W rb N (rOpaque s m.toNat)) := by
  obtain ⟨n, s1, hx⟩ : ∃ n s1, rU32 s = (n, s1) := ⟨_, _, rfl⟩
  have hn := rU32_lt s
  rw [hx] at hn
  dsimp only at hn
  go_enter Tryd.func38, Tryd.ntmps38
  go_wp2_with fail
  refine (u32_any W rb N s h).mono ?_
  rw [hx]
  rintro e W1 ⟨rfl, h1, k1⟩
  dsimp only at h1 ⊢
  have hx := Hid.mk hx
  clear h
  go_wp2_with fail
  refine (err_any W1 rb N s1 h1).mono ?_
  rintro e W2 ⟨rfl, rfl⟩
  by_cases he : s1.2 = 0
  · have he' := Hid.mk he
    rw [he]
    clear he
    by_cases hmn : m.toNat < n
    · have hmn' : ¬ ((n : Int) ≤ m) := by omega
      go_wp2_with fail
      refine (fail_any W1 rb N s1 h1 13).mono ?_
      rintro e W2 ⟨rfl, h2, k2⟩
      have hfin : Hid (OpaqueP W rb N (rOpaque s m.toNat) (.returned (.slice none 0 0)) W2) := by
        rw [rOpaque_2 hx.out he'.out hmn]
        exact ⟨none, 0, rfl, Nat.le_refl _, Rd.nil _ _ _, h2, k1.trans k2⟩
      clear h1 k1 h2 k2
      go_wp2_with fail
      go_ret
      exact hfin.out
    · have hmn' : (n : Int) ≤ m := by omega
      have hf := fill_lt n
      obtain ⟨bl, s2, ht⟩ : ∃ bl s2, rTake s1 (n + fill n) = (bl, s2) := ⟨_, _, rfl⟩
      have ht' := Hid.mk ht
      go_wp2_with fail
      refine (fill_any W1 n (by omega)).mono ?_
      rintro e W2 ⟨rfl, rfl⟩
      go_wp2_with fail
      have hadd : ((n : Int) + ((fill n : Nat) : Int)) = ((n + fill n : Nat) : Int) := by omega
      rw [hadd]
      clear hadd
      refine (take_any W1 rb N s1 h1 (n + fill n) (by omega)).mono ?_
      rintro e W2 hp
      unfold TakeP at hp
      rw [ht] at hp
      obtain ⟨a2, c2, rfl, hc2, hr2, h2, k2⟩ := hp
      dsimp only at hc2 hr2 h2 ⊢
      have k2 := k1.trans k2
      clear k1 h1 ht
      have hRD := h2
      obtain ⟨hN, hl2, a3, c3, hc3, hb3, hr3⟩ := h2
      have c1 := cell_blk hb3 1
      simp at c1
      clear hb3 hr3 hc3 hl2
      by_cases he2 : s2.2 = 0
      · have hbl := rTake_ok ht'.out he2
        have he2' := Hid.mk he2
        rw [he2] at c1
        clear he2
        have hbl' := Hid.mk hbl
        have hlen : n ≤ bl.length := by omega
        have hlen2 : bl.length ≤ n + 3 := by omega
        clear hbl
        have hs1 := hr2.sliced n bl.length c2 1 (by omega) hc2 (bl.length - n) (by omega)
        have e3 : ((bys bl).drop (n * 1)).take (bl.length - n) = bys (bl.drop n) := by
          rw [Nat.mul_one, List.take_of_length_le (by simp)]; simp [List.map_drop]
        rw [e3, Nat.mul_one] at hs1
        clear e3
        have hs2 : Rd W2 N a2 (bys (bl.take n)) := by have := hr2.take n; rwa [bys, ← List.map_take] at this
        have hs1 := Hid.mk hs1
        have hs2 := Hid.mk hs2
        clear hr2
        have el : (bl.drop n).length = bl.length - n := by simp
        have el2 : (bl.take n).length = n := by simp; omega
        have el := Hid.mk el
        have el2 := Hid.mk el2
        have fin1 : (bl.drop n).any (· != 0) = true → ∀ W3, RD W3 rb N (rFail s2 11) → Kp (On rb) W2 W3 → OpaqueP W rb N (rOpaque s m.toNat) (.returned (.slice none 0 0)) W3 := by
          intro ha W3 h3 k3
          rw [rOpaque_4 hx.out he'.out hmn ht'.out he2'.out ha]
          exact ⟨none, 0, rfl, Nat.le_refl _, Rd.nil _ _ _, h3, k2.trans k3⟩
        have fin2 : (bl.drop n).any (· != 0) = false → ∀ W3 a c, n ≤ c → Rd W3 W3.heap.size a (bys (bl.take n)) → Kp Nn W2 W3 → OpaqueP W rb N (rOpaque s m.toNat) (.returned (.slice a n c)) W3 := by
          intro ha W3 a c hc hr k3
          rw [rOpaque_5 hx.out he'.out hmn ht'.out he2'.out ha]
          have hlr : rb < W2.heap.size := by obtain ⟨_, _, _, _, _, hb, _⟩ := hRD; exact lt_of_blk hb
          exact ⟨a, c, by rw [el2.out], by rw [el2.out]; exact hc, hr, hRD.kp k3 (fun _ x => x) (fun _ _ _ x => x), k2.trans k3.nn⟩
        have fin1 := Hid.mk fin1
        have fin2 := Hid.mk fin2
        have hRD' := Hid.mk hRD
        clear k2 hRD
        have key : (n = c2 ∧ Hid (Rd W2 N a2 (bys (bl.drop n)))) ∨ (¬ c2 = n ∧ Hid (Rd W2 N (a2.map (fun x => x.add n)) (bys (bl.drop n)))) := by
          have h1 := hs1.out
          by_cases hcn : c2 = n
          · rw [if_pos hcn] at h1; exact .inl ⟨hcn.symm, h1⟩
          · rw [if_neg hcn] at h1; exact .inr ⟨hcn, h1⟩
        clear hs1
        rcases key with ⟨rfl, hs1⟩ | ⟨hcn, hs1⟩
        · have hd : bl.drop n = [] := List.drop_of_length_le (by omega)
          have hd := Hid.mk hd
          go_wp2_with fail
          refine (containsB_any W2 N a2 0 [] (Rd.nil _ _ _) (by simp)).mono ?_
          rintro e W3 ⟨rfl, rfl⟩
          have e0 : ([] : List UInt8).any (· != 0) = (bl.drop n).any (· != 0) := by rw [hd.out]
          rw [e0]
          clear e0
          cases hany : (bl.drop n).any (· != 0) with
          | true =>
            have f1 := Hid.mk (fin1.out hany)
            clear fin1 fin2

            clear hany
            go_wp2_with fail
            refine (fail_any W2 rb N s2 hRD'.out 11).mono ?_
            rintro e W3 ⟨rfl, h3, k3⟩
            have f2 := Hid.mk (f1.out W3 h3 k3)
            clear f1 h3 k3
            go_wp2_with fail
            go_ret
            exact f2.out
          | false =>
            have f1 := Hid.mk (fin2.out hany)
            clear fin1 fin2 hany
            go_wp2_with fail
            rw [← el2.out]
            refine (cloneB_any W2 N _ _ _ hs2.out (by rw [el2.out]; omega)).mono ?_
            rintro e W3 ⟨a4, c4, rfl, h4, r4, k4, _⟩
            rw [el2.out] at h4 ⊢
            have f2 := Hid.mk (f1.out W3 a4 c4 h4 r4 k4)
            clear f1 h4 r4 k4
            go_wp2_with fail
            go_ret
            exact f2.out
        · go_wp2_with fail
          rw [← el.out]
          refine (containsB_any W2 N _ _ _ hs1.out (by rw [el.out]; omega)).mono ?_
          rintro e W3 ⟨rfl, rfl⟩
          rw [el.out]
          cases hany : (bl.drop n).any (· != 0) with
          | true =>
            have f1 := Hid.mk (fin1.out hany)
            clear fin1 fin2

            clear hany
            go_wp2_with fail
            refine (fail_any W2 rb N s2 hRD'.out 11).mono ?_
            rintro e W3 ⟨rfl, h3, k3⟩
            have f2 := Hid.mk (f1.out W3 h3 k3)
            clear f1 h3 k3
            go_wp2_with fail
            go_ret
            exact f2.out
          | false =>
            have f1 := Hid.mk (fin2.out hany)
            clear fin1 fin2 hany
            go_wp2_with fail
            rw [← el2.out]
            refine (cloneB_any W2 N _ _ _ hs2.out (by rw [el2.out]; omega)).mono ?_
            rintro e W3 ⟨a4, c4, rfl, h4, r4, k4, _⟩
            rw [el2.out] at h4 ⊢
            have f2 := Hid.mk (f1.out W3 a4 c4 h4 r4 k4)
            clear f1 h4 r4 k4
            go_wp2_with fail
            go_ret
            exact f2.out
      · have hq : (s2.2 != 0) = true := by simpa using he2
        have hfin : Hid (OpaqueP W rb N (rOpaque s m.toNat) (.returned (.slice none 0 0)) W2) := by
          rw [rOpaque_3 hx.out he'.out hmn ht'.out he2]
          exact ⟨none, 0, rfl, Nat.le_refl _, Rd.nil _ _ _, hRD, k2⟩
        clear hRD k2 he2 hr2
        go_wp2_with fail
        go_ret
        exact hfin.out
  · have hq : (s1.2 != 0) = true := by simpa using he
    have hfin : Hid (OpaqueP W rb N (rOpaque s m.toNat) (.returned (.slice none 0 0)) W1) := by
      rw [rOpaque_1 hx.out he]
      exact ⟨none, 0, rfl, Nat.le_refl _, Rd.nil _ _ _, h1, k1⟩
    clear h1 k1 he
    go_wp2_with fail
    go_ret
    exact hfin.out
end Go.Proofs.YtnfcjfbepaoimaaDoor
