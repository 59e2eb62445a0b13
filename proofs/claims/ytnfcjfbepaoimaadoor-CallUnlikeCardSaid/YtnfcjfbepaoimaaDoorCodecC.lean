/- Calls and replies: what is put is got; cut it ends too early; nothing else is got. Plain Lean over the functions of package call. -/
import Derived.Test.YtnfcjfbepaoimaaDoorCodec
import Derived.Test.YtnfcjfbepaoimaaDoorCallY
set_option linter.unusedVariables false
set_option linter.unusedSimpArgs false
namespace Go.Proofs.YtnfcjfbepaoimaaDoor

theorem mk_toList (s : ByteArray) : (⟨s.data.toList.toArray⟩ : ByteArray) = s := by cases s; simp

/-! ### two numbers -/
theorem rHdl_eat {i g : Nat} (hi : i < 4294967296) (hg : g < 4294967296) : Eat rHdl (pU32 i ++ pU32 g) (i, g) where
  got := fun rest => by
    have h1 := (rU32_eat hi).got (pU32 g ++ rest)
    have h2 := (rU32_eat hg).got rest
    rw [List.append_assoc]
    simp only [rHdl]
    rw [h1]
    simp only
    rw [h2]
  cut := fun p hp hl => ((Eats.one (rU32_eat hi)).snoc (rU32_eat hg)).cut p hp hl
  stay := fun s hs => by
    have h1 : rU32 s = (0, s) := by simp [rU32, rNum, rTake, hs, be]
    simp [rHdl, h1]
theorem rHdl_bk : Bk rHdl (fun x => pU32 x.1 ++ pU32 x.2) (fun x => x.1 < 4294967296 ∧ x.2 < 4294967296) := fun s h => by
  obtain ⟨h1, h2, h3⟩ := rU32_bk (rU32 s).2 h
  obtain ⟨k1, k2, k3⟩ := rU32_bk s h1
  refine ⟨k1, ?_, k3, h3⟩
  rw [k2, h2]
  simp [rHdl]

/-! ### entries -/
theorem gEnt_eat {e : Ent} (ho : e.ok) (hn : e.name.size ≤ 24) : Eat gEnt (pEnt e) e where
  got := fun rest => by
    obtain ⟨h1, h2, h3⟩ := ho
    have g1 := (rU64_eat h1).got (pU32 e.ino ++ (pU32 e.gen ++ (pOpaque e.name.data.toList ++ rest)))
    have g2 := (rU32_eat h2).got (pU32 e.gen ++ (pOpaque e.name.data.toList ++ rest))
    have g3 := (rU32_eat h3).got (pOpaque e.name.data.toList ++ rest)
    have g4 := (rOpaque_eat (l := e.name.data.toList) (m := 24) (by simpa using hn) (by decide)).got rest
    have e0 : pEnt e ++ rest = pU64 e.cookie ++ (pU32 e.ino ++ (pU32 e.gen ++ (pOpaque e.name.data.toList ++ rest))) := by simp [pEnt]
    rw [e0]
    simp only [gEnt, g1, g2, g3, g4, mk_toList]
  cut := fun p hp hl => by
    obtain ⟨h1, h2, h3⟩ := ho
    exact ((((Eats.one (rU64_eat h1)).snoc (rU32_eat h2)).snoc (rU32_eat h3)).snoc (rOpaque_eat (l := e.name.data.toList) (m := 24) (by simpa using hn) (by decide))).cut p hp hl
  stay := fun s hs => by
    have h1 : rU64 s = (0, s) := by simp [rU64, rNum, rTake, hs, be]
    have h2 : rU32 s = (0, s) := by simp [rU32, rNum, rTake, hs, be]
    simp only [gEnt, h1, h2]
    exact (rOpaque_eat (l := []) (m := 24) (by simp) (by decide)).stay s hs
theorem gEnt_bk : Bk gEnt pEnt (fun e => e.ok ∧ e.name.size ≤ 24) := fun s h => by
  obtain ⟨a1, a2, a3⟩ := rOpaque_bk 24 (by decide) (rU32 (rU32 (rU64 s).2).2).2 h
  obtain ⟨b1, b2, b3⟩ := rU32_bk (rU32 (rU64 s).2).2 a1
  obtain ⟨c1, c2, c3⟩ := rU32_bk (rU64 s).2 b1
  obtain ⟨d1, d2, d3⟩ := rU64_bk s c1
  refine ⟨d1, ?_, ⟨d3, c3, b3⟩, by simpa [gEnt, ByteArray.size] using a3⟩
  rw [d2, c2, b2, a2]
  simp [pEnt, gEnt]
theorem pEnt_ne (e : Ent) : 0 < (pEnt e).length := by
  simp only [pEnt, List.length_append, pU64_length]
  omega
theorem putEs_cons (e : Ent) (l : List Ent) : putEs (e :: l) = pEnt e ++ putEs l := by simp [putEs]
theorem getF_put : ∀ (l acc : List Ent), (∀ e ∈ l, e.ok ∧ e.name.size ≤ 24) → getF acc (putEs l, 0) = (acc ++ l, 0)
  | [], acc, _ => by rw [getF_nil (by simp [putEs])]; simp
  | e :: l, acc, h => by
    have he := h e (by simp)
    have g := (gEnt_eat he.1 he.2).got (putEs l)
    have hp := pEnt_ne e
    rw [putEs_cons, getF_step (by simp only [List.length_append]; omega) (by rw [g]), g, getF_put l _ (fun x hx => h x (by simp [hx]))]
    simp
theorem getF_back : ∀ (n : Nat) (acc : List Ent) (s : RS), s.1.length ≤ n → s.2 = 0 → (getF acc s).2 = 0 → ∃ l, (getF acc s).1 = acc ++ l ∧ s.1 = putEs l ∧ ∀ e ∈ l, e.ok ∧ e.name.size ≤ 24 := by
  intro n
  induction n with
  | zero =>
    intro acc s hn _ _
    have h0 : s.1.length = 0 := by omega
    refine ⟨[], by rw [getF_nil h0]; simp, by simpa [putEs] using h0, by simp⟩
  | succ n ih =>
    intro acc s hn h0 h
    by_cases hz : s.1.length = 0
    · exact ⟨[], by rw [getF_nil hz]; simp, by simpa [putEs] using hz, by simp⟩
    by_cases h2 : (gEnt s).2.2 = 0
    · rw [getF_step hz h2] at h ⊢
      obtain ⟨k1, k2, k3⟩ := gEnt_bk s h2
      have hlen := (gEnt_ok h2).2
      obtain ⟨l, e1, e2, e3⟩ := ih (acc ++ [(gEnt s).1]) (gEnt s).2 (by omega) h2 h
      refine ⟨(gEnt s).1 :: l, by rw [e1]; simp, by rw [putEs_cons, ← e2]; exact k2, fun x hx => ?_⟩
      rcases List.mem_cons.1 hx with rfl | hx
      · exact k3
      · exact e3 x hx
    · rw [getF_bad hz h2] at h
      exact absurd h h2
theorem getD_put {l : List Ent} (hm : mayL l = true) (ho : ∀ e ∈ l, e.ok) : getD (putEs l) = (l, 0) := by
  have h := getF_put l [] (fun e he => ⟨ho e he, nameErr_size (mayP_names l [] hm e he)⟩)
  rw [getD_eq, h]
  simp [hm]
theorem getD_back {b : List UInt8} (h : (getD b).2 = 0) : putEs (getD b).1 = b ∧ mayL (getD b).1 = true ∧ ∀ e ∈ (getD b).1, e.ok := by
  rw [getD_eq] at h ⊢
  by_cases h1 : (getF [] (b, 0)).2 = 0
  · obtain ⟨l, e1, e2, e3⟩ := getF_back b.length [] (b, 0) (Nat.le_refl _) rfl h1
    simp only [List.nil_append] at e1
    rw [if_neg (by simpa using h1)] at h ⊢
    by_cases h2 : mayL (getF [] (b, 0)).1 = true
    · rw [if_pos h2]
      refine ⟨by rw [e1]; exact e2.symm, h2, fun e he => (e3 e (by rwa [e1] at he)).1⟩
    · rw [if_neg h2] at h
      simp at h
  · rw [if_pos h1] at h
    exact absurd h h1

/-! ### calls -/
theorem big_false {c : CallV} (h : c.big = false) : knownOp c.op = true ∧ c.name.size ≤ 64 ∧ c.toName.size ≤ 64 ∧ c.data.length ≤ 1024 := by
  simp only [CallV.big, Bool.or_eq_false_iff, Bool.not_eq_false', decide_eq_false_iff_not] at h
  obtain ⟨⟨⟨h1, h2⟩, h3⟩, h4⟩ := h
  exact ⟨h1, by omega, by omega, by omega⟩
theorem call_eats {c : CallV} (ho : c.ok) (hn : c.name.size ≤ 64) (ht : c.toName.size ≤ 64) (hd : c.data.length ≤ 1024) : Eats (fun s => (gCall s).2) (pCall c) := by
  obtain ⟨h1, h2, h3, h4, h5, h6, h7, h8, h9, h10, h11⟩ := ho
  exact (((((((((((Eats.nil.snoc (rU32_eat h1)).snoc (rU32_eat h2)).snoc (rU32_eat h3)).snoc (rHdl_eat h4 h5)).snoc (rOpaque_eat (l := c.name.data.toList) (m := 64) (by simpa using hn) (by decide))).snoc (rHdl_eat h6 h7)).snoc
    (rOpaque_eat (l := c.toName.data.toList) (m := 64) (by simpa using ht) (by decide))).snoc (rU64_eat h8)).snoc (rU64_eat h9)).snoc (rU32_eat h10)).snoc (rU32_eat h11)).snoc (rOpaque_eat (l := c.data) (m := 1024) hd (by decide))
theorem gCall_put {c : CallV} (ho : c.ok) (hn : c.name.size ≤ 64) (ht : c.toName.size ≤ 64) (hd : c.data.length ≤ 1024) (rest : List UInt8) : gCall (pCall c ++ rest, 0) = (c, (rest, 0)) := by
  obtain ⟨h1, h2, h3, h4, h5, h6, h7, h8, h9, h10, h11⟩ := ho
  have g1 := fun r => (rU32_eat h1).got r
  have g2 := fun r => (rU32_eat h2).got r
  have g3 := fun r => (rU32_eat h3).got r
  have g4 := fun r => (rHdl_eat h4 h5).got r
  have g5 := fun r => (rOpaque_eat (l := c.name.data.toList) (m := 64) (by simpa using hn) (by decide)).got r
  have g6 := fun r => (rHdl_eat h6 h7).got r
  have g7 := fun r => (rOpaque_eat (l := c.toName.data.toList) (m := 64) (by simpa using ht) (by decide)).got r
  have g8 := fun r => (rU64_eat h8).got r
  have g9 := fun r => (rU64_eat h9).got r
  have g10 := fun r => (rU32_eat h10).got r
  have g11 := fun r => (rU32_eat h11).got r
  have g12 := fun r => (rOpaque_eat (l := c.data) (m := 1024) hd (by decide)).got r
  have e0 : pCall c ++ rest = pU32 c.client ++ (pU32 c.xid ++ (pU32 c.op ++ ((pU32 c.atI ++ pU32 c.atG) ++ (pOpaque c.name.data.toList ++ ((pU32 c.toI ++ pU32 c.toG) ++ (pOpaque c.toName.data.toList ++ (pU64 c.offset ++ (pU64 c.verf ++ (pU32 c.count ++ (pU32 c.mode ++ (pOpaque c.data ++ rest))))))))))) := by
    simp only [pCall, List.nil_append, List.append_assoc]
  rw [e0]
  simp only [gCall, g1, g2, g3, g4, g5, g6, g7, g8, g9, g10, g11, g12, mk_toList]
theorem getC_put {c : CallV} (ho : c.ok) (hb : c.big = false) : getC (pCall c) = (c, 0) := by
  obtain ⟨hk, hn, ht, hd⟩ := big_false hb
  have g := gCall_put ho hn ht hd []
  rw [List.append_nil] at g
  simp [getC, g, rEnd, hk]
theorem getC_cut {c : CallV} (ho : c.ok) (hb : c.big = false) (k : Nat) (h : k < (pCall c).length) : getC ((pCall c).take k) = (noCall, 10) := by
  obtain ⟨hk, hn, ht, hd⟩ := big_false hb
  have g := (call_eats ho hn ht hd).cut ((pCall c).take k) (List.take_prefix _ _) (by simp; omega)
  simp [getC, rEnd, g]
theorem getC_more {c : CallV} (ho : c.ok) (hb : c.big = false) {more : List UInt8} (h : 0 < more.length) : getC (pCall c ++ more) = (noCall, 12) := by
  obtain ⟨hk, hn, ht, hd⟩ := big_false hb
  have g := gCall_put ho hn ht hd more
  simp [getC, g, rEnd, h]
theorem pCall_inj {a b : CallV} (ha : a.ok) (hb : b.ok) (ba : a.big = false) (bb : b.big = false) (h : pCall a = pCall b) : a = b := by
  have h1 := getC_put ha ba
  have h2 := getC_put hb bb
  have e : (a, (0 : Int)) = (b, 0) := by rw [← h1, ← h2, h]
  exact congrArg Prod.fst e
theorem gCall_bk : Bk gCall pCall (fun c => c.ok ∧ c.name.size ≤ 64 ∧ c.toName.size ≤ 64 ∧ c.data.length ≤ 1024) := fun s h => by
  obtain ⟨x0, s0, e0⟩ : ∃ x s', rU32 s = (x, s') := ⟨_, _, rfl⟩
  obtain ⟨x1, s1, e1⟩ : ∃ x s', rU32 s0 = (x, s') := ⟨_, _, rfl⟩
  obtain ⟨x2, s2, e2⟩ : ∃ x s', rU32 s1 = (x, s') := ⟨_, _, rfl⟩
  obtain ⟨⟨i3, g3⟩, s3, e3⟩ : ∃ x s', rHdl s2 = (x, s') := ⟨_, _, rfl⟩
  obtain ⟨x4, s4, e4⟩ : ∃ x s', rOpaque s3 64 = (x, s') := ⟨_, _, rfl⟩
  obtain ⟨⟨i5, g5⟩, s5, e5⟩ : ∃ x s', rHdl s4 = (x, s') := ⟨_, _, rfl⟩
  obtain ⟨x6, s6, e6⟩ : ∃ x s', rOpaque s5 64 = (x, s') := ⟨_, _, rfl⟩
  obtain ⟨x7, s7, e7⟩ : ∃ x s', rU64 s6 = (x, s') := ⟨_, _, rfl⟩
  obtain ⟨x8, s8, e8⟩ : ∃ x s', rU64 s7 = (x, s') := ⟨_, _, rfl⟩
  obtain ⟨x9, s9, e9⟩ : ∃ x s', rU32 s8 = (x, s') := ⟨_, _, rfl⟩
  obtain ⟨x10, s10, e10⟩ : ∃ x s', rU32 s9 = (x, s') := ⟨_, _, rfl⟩
  obtain ⟨x11, s11, e11⟩ : ∃ x s', rOpaque s10 1024 = (x, s') := ⟨_, _, rfl⟩
  simp only [gCall, e0, e1, e2, e3, e4, e5, e6, e7, e8, e9, e10, e11] at h ⊢
  have b11 := rOpaque_bk 1024 (by decide) s10
  simp only [e11] at b11
  obtain ⟨h11, p11, q11⟩ := b11 h
  have b10 := rU32_bk s9
  simp only [e10] at b10
  obtain ⟨h10, p10, q10⟩ := b10 h11
  have b9 := rU32_bk s8
  simp only [e9] at b9
  obtain ⟨h9, p9, q9⟩ := b9 h10
  have b8 := rU64_bk s7
  simp only [e8] at b8
  obtain ⟨h8, p8, q8⟩ := b8 h9
  have b7 := rU64_bk s6
  simp only [e7] at b7
  obtain ⟨h7, p7, q7⟩ := b7 h8
  have b6 := rOpaque_bk 64 (by decide) s5
  simp only [e6] at b6
  obtain ⟨h6, p6, q6⟩ := b6 h7
  have b5 := rHdl_bk s4
  simp only [e5] at b5
  obtain ⟨h5, p5, q5⟩ := b5 h6
  have b4 := rOpaque_bk 64 (by decide) s3
  simp only [e4] at b4
  obtain ⟨h4, p4, q4⟩ := b4 h5
  have b3 := rHdl_bk s2
  simp only [e3] at b3
  obtain ⟨h3, p3, q3⟩ := b3 h4
  have b2 := rU32_bk s1
  simp only [e2] at b2
  obtain ⟨h2, p2, q2⟩ := b2 h3
  have b1 := rU32_bk s0
  simp only [e1] at b1
  obtain ⟨h1, p1, q1⟩ := b1 h2
  have b0 := rU32_bk s
  simp only [e0] at b0
  obtain ⟨h0, p0, q0⟩ := b0 h1
  refine ⟨h0, ?_, ⟨q0, q1, q2, q3.1, q3.2, q5.1, q5.2, q7, q8, q9, q10⟩, by simpa [ByteArray.size] using q4, by simpa [ByteArray.size] using q6, q11⟩
  rw [p0, p1, p2, p3, p4, p5, p6, p7, p8, p9, p10, p11]
  simp [pCall]
theorem getC_back {b : List UInt8} (h : (getC b).2 = 0) : (getC b).1.ok ∧ (getC b).1.big = false ∧ pCall (getC b).1 = b := by
  by_cases h1 : rEnd (gCall (b, 0)).2 = 0
  · have h2 : knownOp (gCall (b, 0)).1.op = true := by
      cases hk : knownOp (gCall (b, 0)).1.op with
      | true => rfl
      | false => simp [getC, h1, hk] at h
    have e : getC b = ((gCall (b, 0)).1, 0) := by simp [getC, h1, h2]
    have h3 : (gCall (b, 0)).2.2 = 0 ∧ (gCall (b, 0)).2.1 = [] := by
      unfold rEnd at h1
      split at h1
      · rename_i hh; exact absurd h1 hh
      · rename_i hh
        split at h1
        · simp at h1
        · rename_i hl
          exact ⟨by simpa using hh, by simpa using hl⟩
    obtain ⟨k1, k2, k3, k4, k5, k6⟩ := gCall_bk (b, 0) h3.1
    rw [e]
    refine ⟨k3, by simp [CallV.big, h2, k4, k5, k6], ?_⟩
    rw [h3.2, List.append_nil] at k2
    exact k2.symm
  · simp [getC, h1] at h

/-! ### replies -/
theorem bigR_false {c : ReplyV} (h : c.big = false) : okStatus c.status = true ∧ c.data.length ≤ 1024 ∧ c.entries.length ≤ 24 := by
  simp only [ReplyV.big, Bool.or_eq_false_iff, Bool.not_eq_false', decide_eq_false_iff_not] at h
  obtain ⟨⟨h1, h2⟩, h3⟩ := h
  exact ⟨h1, by omega, by omega⟩
/-- What is read of a reply's bytes. -/
theorem gReply_put {c : ReplyV} (ho : c.ok) (hs : okStatus c.status = true) (hd : c.data.length ≤ 1024) (hr : (putEs c.entries).length ≤ 2048) (rest : List UInt8) :
    gReply (pReply c ++ rest, 0) = (({ c with status := 0, entries := [] }, c.status.toNat, putEs c.entries), (rest, 0)) := by
  obtain ⟨h1, h2, h3, h4, h5, h6, h7, h8, h9, h10, h11, _⟩ := ho
  have hst := okStatus_le hs
  have g1 := fun r => (rU32_eat h1).got r
  have g2 := fun r => (rU32_eat h2).got r
  have g3 := fun r => (rU32_eat (x := c.status.toNat) (by omega)).got r
  have g4 := fun r => (rHdl_eat h3 h4).got r
  have g5 := fun r => (rU32_eat h5).got r
  have g6 := fun r => (rU32_eat h6).got r
  have g7 := fun r => (rU32_eat h7).got r
  have g8 := fun r => (rU32_eat h8).got r
  have g9 := fun r => (rU64_eat h9).got r
  have g10 := fun r => (rOpaque_eat (l := c.data) (m := 1024) hd (by decide)).got r
  have g11 := fun r => (rOpaque_eat (l := putEs c.entries) (m := 2048) hr (by decide)).got r
  have g12 := fun r => (rBool_eat c.eof).got r
  have g13 := fun r => (rU64_eat h10).got r
  have g14 := fun r => (rU32_eat h11).got r
  have e0 : pReply c ++ rest = pU32 c.client ++ (pU32 c.xid ++ (pU32 c.status.toNat ++ ((pU32 c.atI ++ pU32 c.atG) ++ (pU32 c.kind ++ (pU32 c.mode ++ (pU32 c.links ++ (pU32 c.size ++ (pU64 c.change ++ (pOpaque c.data ++ (pOpaque (putEs c.entries) ++ (pBool c.eof ++ (pU64 c.verf ++ (pU32 c.free ++ rest))))))))))))) := by
    simp only [pReply, List.nil_append, List.append_assoc]
  rw [e0]
  simp only [gReply, g1, g2, g3, g4, g5, g6, g7, g8, g9, g10, g11, g12, g13, g14]
theorem reply_eats {c : ReplyV} (ho : c.ok) (hs : okStatus c.status = true) (hd : c.data.length ≤ 1024) (hr : (putEs c.entries).length ≤ 2048) : Eats (fun s => (gReply s).2) (pReply c) := by
  obtain ⟨h1, h2, h3, h4, h5, h6, h7, h8, h9, h10, h11, _⟩ := ho
  have hst := okStatus_le hs
  exact (((((((((((((Eats.nil.snoc (rU32_eat h1)).snoc (rU32_eat h2)).snoc (rU32_eat (x := c.status.toNat) (by omega))).snoc (rHdl_eat h3 h4)).snoc (rU32_eat h5)).snoc (rU32_eat h6)).snoc (rU32_eat h7)).snoc (rU32_eat h8)).snoc (rU64_eat h9)).snoc
    (rOpaque_eat (l := c.data) (m := 1024) hd (by decide))).snoc (rOpaque_eat (l := putEs c.entries) (m := 2048) hr (by decide))).snoc (rBool_eat c.eof)).snoc (rU64_eat h10)).snoc (rU32_eat h11)
theorem row_le {l : List Ent} (hm : mayL l = true) (hl : l.length ≤ 24) : (putEs l).length ≤ 2048 := by
  have := putEs_length (mayP_names l [] hm)
  omega
theorem getR_put {c : ReplyV} (ho : c.ok) (hb : c.big = false) (hm : mayL c.entries = true) : getR (pReply c) = (c, 0) := by
  obtain ⟨hs, hd, he⟩ := bigR_false hb
  have g := gReply_put ho hs hd (row_le hm he) []
  rw [List.append_nil] at g
  have hst := okStatus_le hs
  have e1 : ((c.status.toNat : Nat) : Int) = c.status := by omega
  simp [getR, g, rEnd, getD_put hm ho.2.2.2.2.2.2.2.2.2.2.2, e1, hs, he]
theorem getR_cut {c : ReplyV} (ho : c.ok) (hb : c.big = false) (hm : mayL c.entries = true) (k : Nat) (h : k < (pReply c).length) : getR ((pReply c).take k) = (noReply, 10) := by
  obtain ⟨hs, hd, he⟩ := bigR_false hb
  have g := (reply_eats ho hs hd (row_le hm he)).cut ((pReply c).take k) (List.take_prefix _ _) (by simp; omega)
  simp [getR, rEnd, g]
theorem getR_more {c : ReplyV} (ho : c.ok) (hb : c.big = false) (hm : mayL c.entries = true) {more : List UInt8} (h : 0 < more.length) : getR (pReply c ++ more) = (noReply, 12) := by
  obtain ⟨hs, hd, he⟩ := bigR_false hb
  have g := gReply_put ho hs hd (row_le hm he) more
  simp [getR, g, rEnd, h]
theorem putR_ok {c : ReplyV} (h : (putR c).2 = 0) : c.big = false ∧ mayL c.entries = true ∧ putR c = (pReply c, 0) := by
  unfold putR at h ⊢
  by_cases h1 : c.big = true
  · rw [if_pos h1] at h; simp at h
  · rw [if_neg h1] at h ⊢
    have hm : mayL c.entries = true := by
      cases hm : mayL c.entries with
      | true => rfl
      | false => simp [putD, hm] at h
    refine ⟨by simpa using h1, hm, ?_⟩
    simp [putD, hm]
theorem putC_ok {c : CallV} (h : (putC c).2 = 0) : c.big = false ∧ putC c = (pCall c, 0) := by
  unfold putC at h ⊢
  by_cases h1 : c.big = true
  · rw [if_pos h1] at h; simp at h
  · rw [if_neg h1]
    exact ⟨by simpa using h1, rfl⟩
theorem gReply_bk {s : RS} (h : (gReply s).2.2 = 0) : s.2 = 0 ∧ (gReply s).1.1.ok ∧ (gReply s).1.2.1 < 4294967296 ∧ (gReply s).1.1.data.length ≤ 1024 ∧ (gReply s).1.2.2.length ≤ 2048 ∧
    s.1 = ([] ++ pU32 (gReply s).1.1.client ++ pU32 (gReply s).1.1.xid ++ pU32 (gReply s).1.2.1 ++ (pU32 (gReply s).1.1.atI ++ pU32 (gReply s).1.1.atG) ++ pU32 (gReply s).1.1.kind ++ pU32 (gReply s).1.1.mode ++ pU32 (gReply s).1.1.links ++ pU32 (gReply s).1.1.size ++ pU64 (gReply s).1.1.change ++
      pOpaque (gReply s).1.1.data ++ pOpaque (gReply s).1.2.2 ++ pBool (gReply s).1.1.eof ++ pU64 (gReply s).1.1.verf ++ pU32 (gReply s).1.1.free) ++ (gReply s).2.1 := by
  obtain ⟨x0, s0, e0⟩ : ∃ x s', rU32 s = (x, s') := ⟨_, _, rfl⟩
  obtain ⟨x1, s1, e1⟩ : ∃ x s', rU32 s0 = (x, s') := ⟨_, _, rfl⟩
  obtain ⟨x2, s2, e2⟩ : ∃ x s', rU32 s1 = (x, s') := ⟨_, _, rfl⟩
  obtain ⟨⟨i3, g3⟩, s3, e3⟩ : ∃ x s', rHdl s2 = (x, s') := ⟨_, _, rfl⟩
  obtain ⟨x4, s4, e4⟩ : ∃ x s', rU32 s3 = (x, s') := ⟨_, _, rfl⟩
  obtain ⟨x5, s5, e5⟩ : ∃ x s', rU32 s4 = (x, s') := ⟨_, _, rfl⟩
  obtain ⟨x6, s6, e6⟩ : ∃ x s', rU32 s5 = (x, s') := ⟨_, _, rfl⟩
  obtain ⟨x7, s7, e7⟩ : ∃ x s', rU32 s6 = (x, s') := ⟨_, _, rfl⟩
  obtain ⟨x8, s8, e8⟩ : ∃ x s', rU64 s7 = (x, s') := ⟨_, _, rfl⟩
  obtain ⟨x9, s9, e9⟩ : ∃ x s', rOpaque s8 1024 = (x, s') := ⟨_, _, rfl⟩
  obtain ⟨x10, s10, e10⟩ : ∃ x s', rOpaque s9 2048 = (x, s') := ⟨_, _, rfl⟩
  obtain ⟨x11, s11, e11⟩ : ∃ x s', rBool s10 = (x, s') := ⟨_, _, rfl⟩
  obtain ⟨x12, s12, e12⟩ : ∃ x s', rU64 s11 = (x, s') := ⟨_, _, rfl⟩
  obtain ⟨x13, s13, e13⟩ : ∃ x s', rU32 s12 = (x, s') := ⟨_, _, rfl⟩
  simp only [gReply, e0, e1, e2, e3, e4, e5, e6, e7, e8, e9, e10, e11, e12, e13] at h ⊢
  have b13 := rU32_bk s12
  simp only [e13] at b13
  obtain ⟨h13, p13, q13⟩ := b13 h
  have b12 := rU64_bk s11
  simp only [e12] at b12
  obtain ⟨h12, p12, q12⟩ := b12 h13
  have b11 := rBool_bk s10
  simp only [e11] at b11
  obtain ⟨h11, p11, q11⟩ := b11 h12
  have b10 := rOpaque_bk 2048 (by decide) s9
  simp only [e10] at b10
  obtain ⟨h10, p10, q10⟩ := b10 h11
  have b9 := rOpaque_bk 1024 (by decide) s8
  simp only [e9] at b9
  obtain ⟨h9, p9, q9⟩ := b9 h10
  have b8 := rU64_bk s7
  simp only [e8] at b8
  obtain ⟨h8, p8, q8⟩ := b8 h9
  have b7 := rU32_bk s6
  simp only [e7] at b7
  obtain ⟨h7, p7, q7⟩ := b7 h8
  have b6 := rU32_bk s5
  simp only [e6] at b6
  obtain ⟨h6, p6, q6⟩ := b6 h7
  have b5 := rU32_bk s4
  simp only [e5] at b5
  obtain ⟨h5, p5, q5⟩ := b5 h6
  have b4 := rU32_bk s3
  simp only [e4] at b4
  obtain ⟨h4, p4, q4⟩ := b4 h5
  have b3 := rHdl_bk s2
  simp only [e3] at b3
  obtain ⟨h3, p3, q3⟩ := b3 h4
  have b2 := rU32_bk s1
  simp only [e2] at b2
  obtain ⟨h2, p2, q2⟩ := b2 h3
  have b1 := rU32_bk s0
  simp only [e1] at b1
  obtain ⟨h1, p1, q1⟩ := b1 h2
  have b0 := rU32_bk s
  simp only [e0] at b0
  obtain ⟨h0, p0, q0⟩ := b0 h1
  refine ⟨h0, ⟨q0, q1, q3.1, q3.2, q4, q5, q6, q7, q8, q12, q13, by simp⟩, q2, q9, q10, ?_⟩
  rw [p0, p1, p2, p3, p4, p5, p6, p7, p8, p9, p10, p11, p12, p13]
  simp only [List.append_assoc, List.nil_append]
theorem getR_back {b : List UInt8} (h : (getR b).2 = 0) : (getR b).1.ok ∧ putR (getR b).1 = (b, 0) := by
  by_cases h1 : rEnd (gReply (b, 0)).2 = 0
  · by_cases h2 : (getD (gReply (b, 0)).1.2.2).2 = 0
    · by_cases h3 : (okStatus (gReply (b, 0)).1.2.1 && decide ((getD (gReply (b, 0)).1.2.2).1.length ≤ 24)) = true
      · have e : getR b = ({ (gReply (b, 0)).1.1 with status := ((gReply (b, 0)).1.2.1 : Int), entries := (getD (gReply (b, 0)).1.2.2).1 }, 0) := by
          unfold getR
          rw [if_neg (by simpa using h1), if_neg (by simpa using h2), if_pos h3]
        have h4 : (gReply (b, 0)).2.2 = 0 ∧ (gReply (b, 0)).2.1 = [] := by
          unfold rEnd at h1
          split at h1
          · rename_i hh; exact absurd h1 hh
          · rename_i hh
            split at h1
            · simp at h1
            · rename_i hl
              exact ⟨by simpa using hh, by simpa using hl⟩
        obtain ⟨_, k1, k2, k3, k4, k5⟩ := gReply_bk h4.1
        obtain ⟨d1, d2, d3⟩ := getD_back h2
        rw [h4.2, List.append_nil] at k5
        simp only at k5
        rw [e]
        rw [Bool.and_eq_true, decide_eq_true_iff] at h3
        generalize gReply (b, 0) = G at *
        obtain ⟨⟨x, n, row⟩, s⟩ := G
        simp only at *
        refine ⟨⟨k1.1, k1.2.1, k1.2.2.1, k1.2.2.2.1, k1.2.2.2.2.1, k1.2.2.2.2.2.1, k1.2.2.2.2.2.2.1, k1.2.2.2.2.2.2.2.1, k1.2.2.2.2.2.2.2.2.1, k1.2.2.2.2.2.2.2.2.2.1, k1.2.2.2.2.2.2.2.2.2.2.1, d3⟩, ?_⟩
        have hbig : ReplyV.big { x with status := (n : Int), entries := (getD row).1 } = false := by
          have g1 : ¬ 1024 < x.data.length := by omega
          have g2 : ¬ 24 < (getD row).1.length := by omega
          simp [ReplyV.big, h3.1, g1, g2]
        have hput : putD (getD row).1 = (row, 0) := by rw [putD, if_pos d2, d1]
        unfold putR
        rw [hbig]
        simp only [hput]
        rw [if_neg (by simp), if_neg (by simp)]
        simp only [pReply, Int.toNat_natCast, d1]
        rw [k5]
      · unfold getR at h
        rw [if_neg (by simpa using h1), if_neg (by simpa using h2), if_neg h3] at h
        simp at h
    · unfold getR at h
      rw [if_neg (by simpa using h1), if_pos h2] at h
      exact absurd h h2
  · unfold getR at h
    rw [if_pos h1] at h
    exact absurd h h1
/-! ### lengths -/
theorem pOpaque_mod (l : List UInt8) : (pOpaque l).length % 4 = 0 := by rw [pOpaque_length]; unfold fill; omega
theorem pCall_mod (c : CallV) : (pCall c).length % 4 = 0 := by
  have h1 := pOpaque_mod c.name.data.toList
  have h2 := pOpaque_mod c.toName.data.toList
  have h3 := pOpaque_mod c.data
  simp only [pCall, List.length_append, List.length_nil, pU32_length, pU64_length]
  omega
#print axioms getR_back
end Go.Proofs.YtnfcjfbepaoimaaDoor
