/- Numbers and bytes: what is put is got; cut it ends too early; nothing else is got. Plain Lean, no program. -/
import Derived.Test.YtnfcjfbepaoimaaDoorSpec
set_option linter.unusedVariables false
set_option linter.unusedSimpArgs false
namespace Go.Proofs.YtnfcjfbepaoimaaDoor

theorem be_fold (l : List UInt8) : ∀ x : Nat, l.foldl (fun x b => x * 256 + b.toNat) x = x * 256 ^ l.length + be l := by
  induction l with
  | nil => intro x; simp [be]
  | cons b l ih =>
    intro x
    have e1 := ih (x * 256 + b.toNat)
    have e2 := ih (0 * 256 + b.toNat)
    have e3 : be (b :: l) = List.foldl (fun x b => x * 256 + b.toNat) (0 * 256 + b.toNat) l := rfl
    simp only [List.foldl_cons, List.length_cons]
    rw [e1, e3, e2, Nat.pow_succ, Nat.add_mul, Nat.zero_mul, Nat.zero_add, Nat.mul_assoc, Nat.mul_comm 256 (256 ^ l.length), Nat.add_assoc]
theorem be_cons (b : UInt8) (l : List UInt8) : be (b :: l) = b.toNat * 256 ^ l.length + be l := by
  have := be_fold l (0 * 256 + b.toNat)
  simpa [be] using this
theorem ofNat_mod (a k : Nat) : UInt8.ofNat (k * 256 + a) = UInt8.ofNat a := by
  apply UInt8.toNat.inj
  simp [UInt8.toNat_ofNat']
theorem enc_add : ∀ (n k y : Nat), enc n (k * 256 ^ n + y) = enc n y
  | 0, k, y => rfl
  | n + 1, k, y => by
    have hp : 0 < 256 ^ n := Nat.pow_pos (by decide)
    have e : k * 256 ^ (n + 1) = (k * 256) * 256 ^ n := by rw [Nat.pow_succ, Nat.mul_assoc, Nat.mul_comm 256]
    simp only [enc]
    rw [e, enc_add n (k * 256) y]
    congr 1
    rw [Nat.add_comm, Nat.add_mul_div_right _ _ hp, Nat.add_comm]
    exact ofNat_mod _ _
theorem enc_be : ∀ l : List UInt8, enc l.length (be l) = l
  | [] => rfl
  | b :: l => by
    have hp : 0 < 256 ^ l.length := Nat.pow_pos (by decide)
    have hb := be_lt l
    simp only [List.length_cons, enc]
    rw [be_cons, enc_add, enc_be l]
    congr 1
    rw [Nat.add_comm, Nat.add_mul_div_right _ _ hp, Nat.div_eq_of_lt hb, Nat.zero_add]
    simp
theorem be_enc : ∀ (n x : Nat), be (enc n x) = x % 256 ^ n
  | 0, x => by simp [enc, be, Nat.mod_one]
  | n + 1, x => by
    simp only [enc]
    rw [be_cons, be_enc n x, enc_length, Nat.pow_succ, Nat.mod_mul]
    simp [UInt8.toNat_ofNat']
    rw [Nat.mul_comm, Nat.add_comm]
theorem be_enc_lt {n x : Nat} (h : x < 256 ^ n) : be (enc n x) = x := by rw [be_enc, Nat.mod_eq_of_lt h]

/-! ### readers -/
/-- It takes just these bytes off; cut it ends too early. -/
structure Eats (T : RS → RS) (e : List UInt8) : Prop where
  got : ∀ rest, T (e ++ rest, 0) = (rest, 0)
  cut : ∀ p, p <+: e → p.length < e.length → (T (p, 0)).2 = 10
/-- .. and reads x; an error stays. -/
structure Eat {α : Type} (R : RS → α × RS) (e : List UInt8) (x : α) : Prop where
  got : ∀ rest, R (e ++ rest, 0) = (x, (rest, 0))
  cut : ∀ p, p <+: e → p.length < e.length → (R (p, 0)).2.2 = 10
  stay : ∀ s : RS, s.2 ≠ 0 → (R s).2.2 = s.2
theorem Eats.nil : Eats (fun s => s) [] := ⟨fun _ => rfl, fun p _ h => by simp at h⟩
theorem Eats.snoc {α : Type} {T : RS → RS} {e e' : List UInt8} {R : RS → α × RS} {x : α} (h : Eats T e) (k : Eat R e' x) : Eats (fun s => (R (T s)).2) (e ++ e') where
  got := fun rest => by rw [List.append_assoc, h.got, k.got]
  cut := fun p hp hl => by
    by_cases h1 : p.length < e.length
    · have hpe : p <+: e := List.prefix_of_prefix_length_le hp (List.prefix_append e e') (by omega)
      have h10 := h.cut p hpe h1
      show (R (T (p, 0))).2.2 = 10
      rw [k.stay _ (by rw [h10]; decide), h10]
    · have hep : e <+: p := List.prefix_of_prefix_length_le (List.prefix_append e e') hp (by omega)
      obtain ⟨q, rfl⟩ := hep
      have hq : q <+: e' := (List.prefix_append_right_inj e).1 hp
      show (R (T (e ++ q, 0))).2.2 = 10
      rw [h.got]
      exact k.cut q hq (by simp at hl; omega)
theorem Eats.one {α : Type} {e' : List UInt8} {R : RS → α × RS} {x : α} (k : Eat R e' x) : Eats (fun s => (R s).2) e' := by
  have := Eats.nil.snoc k
  simpa using this

theorem rTake_eat {l : List UInt8} {n : Nat} (hn : l.length = n) : Eat (fun s => rTake s n) l l where
  got := fun rest => by
    subst hn
    simp [rTake]
  cut := fun p _ hl => by
    subst hn
    simp [rTake, hl]
  stay := fun s hs => by simp [rTake, hs]
theorem rNum_eat {n x : Nat} (h : x < 256 ^ n) : Eat (fun s => rNum s n) (enc n x) x where
  got := fun rest => by
    have := (rTake_eat (enc_length n x)).got rest
    simp only [rNum] at this ⊢
    rw [this, be_enc_lt h]
  cut := fun p hp hl => (rTake_eat (enc_length n x)).cut p hp hl
  stay := fun s hs => (rTake_eat (enc_length n x)).stay s hs
theorem rU32_eat {x : Nat} (h : x < 4294967296) : Eat rU32 (pU32 x) x := rNum_eat (n := 4) h
theorem rU64_eat {x : Nat} (h : x < 18446744073709551616) : Eat rU64 (pU64 x) x := rNum_eat (n := 8) h
theorem rBool_eat (b : Bool) : Eat rBool (pBool b) b where
  got := fun rest => by
    have h : (if b = true then 1 else 0) < 4294967296 := by cases b <;> decide
    have := (rU32_eat h).got rest
    simp only [rBool, pBool, this]
    cases b <;> simp
  cut := fun p hp hl => by
    have h : (if b = true then 1 else 0) < 4294967296 := by cases b <;> decide
    have := (rU32_eat h).cut p hp hl
    simp only [rBool]
    split
    · simp only [rFail]
      rw [if_neg (by rw [this]; decide)]
      exact this
    · exact this
  stay := fun s hs => by
    have h1 : rU32 s = (0, s) := by simp [rU32, rNum, rTake, hs, be]
    simp [rBool, h1]
theorem rOpaque_eat {l : List UInt8} {m : Nat} (hl : l.length ≤ m) (hm : m < 4294967296) : Eat (fun s => rOpaque s m) (pOpaque l) l where
  got := fun rest => by
    have hlt : l.length < 4294967296 := by omega
    have h1 := (rU32_eat hlt).got (l ++ List.replicate (fill l.length) 0 ++ rest)
    have h2 := (rTake_eat (l := l ++ List.replicate (fill l.length) 0) (n := l.length + fill l.length) (by simp)).got rest
    have e : (pOpaque l ++ rest, (0 : Int)) = (pU32 l.length ++ (l ++ List.replicate (fill l.length) 0 ++ rest), 0) := by
      simp [pOpaque, Nat.mod_eq_of_lt hlt]
    simp only [rOpaque]
    rw [e, h1]
    rw [if_neg (by simp), if_neg (by omega)]
    simp only
    rw [h2]
    simp
  cut := fun p hp hl2 => by
    have hlt : l.length < 4294967296 := by omega
    have e0 : pOpaque l = pU32 l.length ++ (l ++ List.replicate (fill l.length) 0) := by simp [pOpaque, Nat.mod_eq_of_lt hlt]
    have hk := rU32_eat hlt
    rw [e0] at hp hl2
    by_cases h1 : p.length < (pU32 l.length).length
    · have hpe : p <+: pU32 l.length := List.prefix_of_prefix_length_le hp (List.prefix_append _ _) (by omega)
      have h10 := hk.cut p hpe h1
      simp only [rOpaque]
      rw [if_pos (by rw [h10]; decide)]
      exact h10
    · have hep : pU32 l.length <+: p := List.prefix_of_prefix_length_le (List.prefix_append _ _) hp (by omega)
      obtain ⟨q, rfl⟩ := hep
      have h2 := (rTake_eat (l := l ++ List.replicate (fill l.length) 0) (n := l.length + fill l.length) (by simp)).cut q ((List.prefix_append_right_inj _).1 hp) (by simp at hl2 ⊢; omega)
      simp only [rOpaque]
      rw [hk.got]
      rw [if_neg (by simp), if_neg (by omega)]
      simp only
      rw [if_pos (by rw [h2]; decide)]
      exact h2
  stay := fun s hs => by
    have h1 : rU32 s = (0, s) := by simp [rU32, rNum, rTake, hs, be]
    simp [rOpaque, h1, hs]

/-! ### back: what is got is put -/
/-- What is read was put so. -/
def Bk {α : Type} (R : RS → α × RS) (en : α → List UInt8) (P : α → Prop) : Prop := ∀ s : RS, (R s).2.2 = 0 → s.2 = 0 ∧ s.1 = en (R s).1 ++ (R s).2.1 ∧ P (R s).1
theorem rTake_bk (n : Nat) : Bk (fun s => rTake s n) (fun l => l) (fun l => l.length = n) := fun s h => by
  simp only [rTake] at h ⊢
  split at h
  · rename_i h1; exact absurd h h1
  · rename_i h1
    split at h
    · simp at h
    · rename_i h2
      rw [if_neg h1, if_neg h2]
      exact ⟨by simpa using h1, by simp, by simp; omega⟩
theorem rNum_bk (n : Nat) : Bk (fun s => rNum s n) (enc n) (fun x => x < 256 ^ n) := fun s h => by
  obtain ⟨h1, h2, h3⟩ := rTake_bk n s h
  refine ⟨h1, ?_, rNum_lt s n⟩
  simp only [rNum]
  simp only at h2 h3
  have := enc_be (rTake s n).1
  rw [h3] at this
  rw [this]
  exact h2
theorem rU32_bk : Bk rU32 pU32 (fun x => x < 4294967296) := rNum_bk 4
theorem rU64_bk : Bk rU64 pU64 (fun x => x < 18446744073709551616) := rNum_bk 8
theorem rBool_bk : Bk rBool pBool (fun _ => True) := fun s h => by
  simp only [rBool] at h ⊢
  split at h
  · rename_i h1
    simp only [rFail] at h
    split at h
    · simp at h
    · rename_i h2; exact absurd h h2
  · rename_i h1
    rw [if_neg h1]
    obtain ⟨h2, h3, h4⟩ := rU32_bk s h
    refine ⟨h2, ?_, trivial⟩
    simp only [pBool]
    have : (if ((rU32 s).1 == 1) = true then 1 else 0) = (rU32 s).1 := by
      by_cases e : (rU32 s).1 = 1
      · simp [e]
      · have : (rU32 s).1 = 0 := by omega
        simp [this]
    rw [this]
    exact h3
theorem rOpaque_bk (m : Nat) (hm : m < 4294967296) : Bk (fun s => rOpaque s m) pOpaque (fun l => l.length ≤ m) := fun s h => by
  simp only [rOpaque] at h ⊢
  split at h
  · rename_i h1; exact absurd h h1
  · rename_i h1
    split at h
    · simp at h
    · rename_i h2
      split at h
      · rename_i h3; exact absurd h h3
      · rename_i h3
        split at h
        · simp at h
        · rename_i h4
          rw [if_neg h1, if_neg h2, if_neg h3, if_neg h4]
          simp only at h ⊢
          obtain ⟨g1, g2, g3⟩ := rU32_bk s (by simpa using h1)
          obtain ⟨k1, k2, k3⟩ := rTake_bk ((rU32 s).1 + fill (rU32 s).1) (rU32 s).2 h
          simp only at k2 k3
          generalize (rU32 s).1 = n at *
          generalize (rTake (rU32 s).2 (n + fill n)).1 = l at *
          have hln : (l.take n).length = n := by simp; omega
          refine ⟨g1, ?_, by rw [hln]; omega⟩
          have hz : l.drop n = List.replicate (fill n) 0 := by
            apply List.eq_replicate_iff.2
            refine ⟨by simp; omega, fun b hb => ?_⟩
            have : (l.drop n).any (· != 0) = false := by simpa using h4
            rw [List.any_eq_false] at this
            simpa using this b hb
          rw [g2, k2]
          simp only [pOpaque]
          rw [hln, Nat.mod_eq_of_lt g3]
          have : l = l.take n ++ List.replicate (fill n) 0 := by rw [← hz, List.take_append_drop]
          conv => lhs; rw [this]
          simp
end Go.Proofs.YtnfcjfbepaoimaaDoor
