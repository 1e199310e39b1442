/- Nibbles: plain laws. -/
import Derived.Test.YthnlhbbcidemnaaD
namespace Go.Proofs.Ythnlhbbcidemnaa

theorem pairB_val (a b : UInt8) (ha : a.toNat ≤ 15) (hb : b.toNat ≤ 15) : (pairB a b).toNat = a.toNat * 16 + b.toNat := by
  unfold pairB
  rw [UInt8.toNat_or, UInt8.toNat_mul, show (16 : UInt8).toNat = 16 from rfl, Nat.mod_eq_of_lt (by omega)]
  have h := Nat.two_pow_add_eq_or_of_lt (i := 4) (b := b.toNat) (by omega) a.toNat
  rw [show 2 ^ 4 = 16 from rfl, Nat.mul_comm] at h
  exact h.symm
theorem pairB_halves (c : UInt8) : pairB (c / 16) (c % 16) = c := by
  have h := c.toNat_lt
  apply UInt8.toNat_inj.1
  have e1 : (c / 16).toNat = c.toNat / 16 := by rw [UInt8.toNat_div]; rfl
  have e2 : (c % 16).toNat = c.toNat % 16 := by rw [UInt8.toNat_mod]; rfl
  rw [pairB_val _ _ (by omega) (by omega), e1, e2]
  omega
theorem pathL_cons (c : UInt8) (r : List UInt8) : pathL (c :: r) = c / 16 :: c % 16 :: pathL r := rfl
theorem pairL_pathL : ∀ l : List UInt8, pairL (pathL l) = l
  | [] => rfl
  | c :: r => by rw [pathL_cons, pairL, pairL_pathL r, pairB_halves]
theorem valid_pathL : ∀ l : List UInt8, validL (pathL l) = true
  | [] => rfl
  | c :: r => by
    have ih := valid_pathL r
    have h := c.toNat_lt
    have e1 : (c / 16).toNat = c.toNat / 16 := by rw [UInt8.toNat_div]; rfl
    have e2 : (c % 16).toNat = c.toNat % 16 := by rw [UInt8.toNat_mod]; rfl
    unfold validL at ih ⊢
    rw [pathL_cons, List.all_cons, List.all_cons, ih]
    simp [UInt8.le_iff_toNat_le]
    omega
theorem keyB_pathL (l : List UInt8) : keyB (pathL l) = true := by
  unfold keyB
  rw [valid_pathL, length_pathL, decide_eq_true (by omega)]
  rfl
theorem keyL_pathL (l : List UInt8) : keyL (pathL l) = l := by rw [keyL_yes (keyB_pathL l), pairL_pathL]

theorem length_putL (l : List UInt8) (leaf : Bool) (h : validL l = true) : (putL l leaf).length = 1 + l.length / 2 := by
  unfold putL
  rw [if_pos h]
  refine length_pairL _ _ ?_
  unfold frontL oddB
  by_cases ho : l.length % 2 = 1
  · rw [decide_eq_true ho]; simp; omega
  · rw [decide_eq_false ho]; simp; omega

theorem commonL_self : ∀ l : List UInt8, commonL l l = l.length
  | [] => rfl
  | c :: r => by simp [commonL, commonL_self r]
theorem commonL_front : ∀ a b : List UInt8, commonL (a ++ b) a = a.length
  | [], b => by simp [commonL]
  | c :: r, b => by simp [commonL, commonL_front r b]
theorem commonL_swap : ∀ a b : List UInt8, commonL a b = commonL b a
  | [], [] => rfl
  | [], _ :: _ => rfl
  | _ :: _, [] => rfl
  | a :: r, b :: t => by
    unfold commonL
    by_cases h : a = b
    · subst h; simp [commonL_swap r t]
    · rw [if_neg h, if_neg (Ne.symm h)]
theorem commonL_le : ∀ a b : List UInt8, commonL a b ≤ a.length ∧ commonL a b ≤ b.length
  | [], _ => by simp [commonL]
  | _ :: _, [] => by simp [commonL]
  | a :: r, b :: t => by
    have := commonL_le r t
    unfold commonL
    split
    · simp; omega
    · simp
theorem commonL_take : ∀ a b : List UInt8, a.take (commonL a b) = b.take (commonL a b)
  | [], [] => rfl
  | [], _ :: _ => by simp [commonL]
  | _ :: _, [] => by simp [commonL]
  | a :: r, b :: t => by
    unfold commonL
    split
    · rename_i h; subst h; simp [commonL_take r t]
    · rfl
theorem commonL_stop : ∀ a b : List UInt8, commonL a b = a.length ∨ commonL a b = b.length ∨ (∃ x y, a[commonL a b]? = some x ∧ b[commonL a b]? = some y ∧ x ≠ y)
  | [], _ => .inl (by simp [commonL])
  | _ :: _, [] => .inr (.inl (by simp [commonL]))
  | a :: r, b :: t => by
    have ih := commonL_stop r t
    unfold commonL
    split
    · rename_i h
      rcases ih with h1 | h1 | ⟨x, y, h1, h2, h3⟩
      · exact .inl (by simp [h1])
      · exact .inr (.inl (by simp [h1]))
      · exact .inr (.inr ⟨x, y, by simpa using h1, by simpa using h2, h3⟩)
    · rename_i h
      exact .inr (.inr ⟨a, b, by simp, by simp, h⟩)

/-- Is one text ahead of another one? -/
def lessL : List UInt8 → List UInt8 → Bool
  | _, [] => false
  | [], _ :: _ => true
  | a :: r, b :: t => if a.toNat < b.toNat then true else if b.toNat < a.toNat then false else lessL r t
theorem lessL_pathL : ∀ a b : List UInt8, lessL (pathL a) (pathL b) = lessL a b
  | [], [] => rfl
  | [], _ :: _ => rfl
  | _ :: _, [] => rfl
  | a :: r, b :: t => by
    rw [pathL_cons, pathL_cons]
    have ih := lessL_pathL r t
    have e1 : (a / 16).toNat = a.toNat / 16 := by rw [UInt8.toNat_div]; rfl
    have e2 : (a % 16).toNat = a.toNat % 16 := by rw [UInt8.toNat_mod]; rfl
    have e3 : (b / 16).toNat = b.toNat / 16 := by rw [UInt8.toNat_div]; rfl
    have e4 : (b % 16).toNat = b.toNat % 16 := by rw [UInt8.toNat_mod]; rfl
    simp only [lessL, e1, e2, e3, e4, ih]
    by_cases h1 : a.toNat / 16 < b.toNat / 16
    · rw [if_pos h1, if_pos (by omega)]
    · rw [if_neg h1]
      by_cases h2 : b.toNat / 16 < a.toNat / 16
      · rw [if_pos h2, if_neg (by omega), if_pos (by omega)]
      · rw [if_neg h2]
        by_cases h3 : a.toNat % 16 < b.toNat % 16
        · rw [if_pos h3, if_pos (by omega)]
        · rw [if_neg h3]
          by_cases h4 : b.toNat % 16 < a.toNat % 16
          · rw [if_pos h4, if_neg (by omega), if_pos (by omega)]
          · rw [if_neg h4, if_neg (by omega), if_neg (by omega)]

end Go.Proofs.Ythnlhbbcidemnaa
