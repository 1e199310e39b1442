/- The walk of ShaFresh. -/
import Derived.Test.YtmgpgjookiknkaaDoorI
namespace Go.Proofs.YtmgpgjookiknkaaDoor
open Go.RowKit

/-- A Hash into which M was written. -/
def IsMsg (w : World) (g : Nat) (M : List Nat) : Prop := IsHash w g (Sh.write Sh.st0 M) M.length
theorem IsMsg.keep {w w' : World} {g : Nat} {M : List Nat} (h : IsMsg w g M) (e : w'.heap[g]? = w.heap[g]?) : IsMsg w' g M := IsHash.keep h e
theorem write_msg (g : Nat) (w : World) (M M' : List Nat) (s : ByteArray) (hM : M' = M ++ bl s) (hh : IsMsg w g M) (hL : Laid w) (h0 : 0 < g) (hn : M.length + s.size ≤ 1000000) :
    Calls Tryd.prog 12 #[.pointer (some ⟨g, 0, none⟩), .string s] w fun e w' => e = .returned (.pointer (some ⟨g, 0, none⟩)) ∧ IsMsg w' g M' ∧ OnlyB w.heap.size g w w' := by
  subst hM
  refine (write_any g w _ _ s hh hL h0 (by omega)).mono fun e w' ⟨h1, h2, h3⟩ => ⟨h1, ?_, h3⟩
  unfold IsMsg
  rw [Sh.write_append, List.length_append, bl_length]
  exact h2
theorem sum_msg (g : Nat) (w : World) (M : List Nat) (hh : IsMsg w g M) (hL : Laid w) (hn : M.length ≤ 1000000) :
    Calls Tryd.prog 13 #[.pointer (some ⟨g, 0, none⟩)] w fun e w' => e = .returned (.string (tx (Sh.of M))) ∧ Below w.heap.size w w' :=
  sum_any g w _ _ hh hL (by omega)
theorem new_msg (w : World) (hL : Laid w) : Calls Tryd.prog 11 #[] w fun e w' => e = .returned (.pointer (some ⟨w.heap.size, 0, none⟩)) ∧ IsMsg w' w.heap.size [] ∧ Below w.heap.size w w' ∧ Hid (w'.heap.size = w.heap.size + 1) :=
  (new_any w).mono fun e w' ⟨h1, h2⟩ => by
    subst h2
    exact ⟨h1, H0_hash w, (Below.refl _ _).alloc (Nat.le_refl _) _, show (w.alloc _).heap.size = _ by simp⟩
theorem bl_append (a b : ByteArray) : bl (a ++ b) = bl a ++ bl b := by
  unfold bl
  rw [ByteArray.data_append, Array.toList_append, List.map_append]
theorem of_one' (a : ByteArray) (w : World) (hL : Laid w) (ha : a.size ≤ 1000000) :
    Calls Tryd.prog 9 #[.slice (some ⟨w.heap.size, 0, none⟩) 1 1] (w.alloc (.cells #[.string a] 9)) fun e w' => e = .returned (.string (tx (Sh.of (bl a)))) ∧ Below w.heap.size w w' := of_one a w hL ha
theorem of_cat (a b : ByteArray) (w : World) (hL : Laid w) (ha : a.size + b.size ≤ 1000000) :
    Calls Tryd.prog 9 #[.slice (some ⟨w.heap.size, 0, none⟩) 1 1] (w.alloc (.cells #[.string (a ++ b)] 9)) fun e w' => e = .returned (.string (tx (Sh.of (bl a ++ bl b)))) ∧ Below w.heap.size w w' := by
  have h := of_one (a ++ b) w hL (by rw [ByteArray.size_append]; exact ha)
  unfold sh at h
  rw [bl_append] at h
  exact h

/-- Two hashes, at g and at k. -/
structure W2 (w : World) (g k : Nat) (M N : List Nat) (w1 : World) : Prop where
  h1 : IsMsg w1 g M
  h2 : IsMsg w1 k N
  laid : Laid w1
  bel : Below w.heap.size w w1
  p1 : 0 < g
  p2 : 0 < k
  ge : w.heap.size ≤ g
  lt : g < k
  kt : k < w1.heap.size
theorem W2.below {w w1 w2 : World} {g k : Nat} {M N : List Nat} (h : W2 w g k M N w1) (b : Below w1.heap.size w1 w2) : W2 w g k M N w2 :=
  ⟨h.h1.keep (b.block _ (by have := h.lt; have := h.kt; omega)), h.h2.keep (b.block _ h.kt), h.laid.below b h.laid.1, h.bel.trans (b.mono h.bel.size), h.p1, h.p2, h.ge, h.lt, Nat.lt_of_lt_of_le h.kt b.size⟩
theorem W2.first {w w1 w2 : World} {g k : Nat} {M N M' : List Nat} (h : W2 w g k M N w1) (hh : IsMsg w2 g M') (o : OnlyB w1.heap.size g w1 w2) : W2 w g k M' N w2 :=
  ⟨hh, h.h2.keep (o.block _ h.kt (by have := h.lt; omega)), h.laid.only o h.p1 h.laid.1, h.bel.trans (o.below h.ge h.bel.size), h.p1, h.p2, h.ge, h.lt, Nat.lt_of_lt_of_le h.kt o.size⟩
theorem W2.second {w w1 w2 : World} {g k : Nat} {M N N' : List Nat} (h : W2 w g k M N w1) (hh : IsMsg w2 k N') (o : OnlyB w1.heap.size k w1 w2) : W2 w g k M N' w2 :=
  ⟨h.h1.keep (o.block _ (by have := h.lt; have := h.kt; omega) (by have := h.lt; omega)), hh, h.laid.only o h.p2 h.laid.1, h.bel.trans (o.below (by have := h.ge; have := h.lt; omega) h.bel.size), h.p1, h.p2, h.ge, h.lt, Nat.lt_of_lt_of_le h.kt o.size⟩
theorem W2.made {w w0 w1 w2 : World} (b0 : Below w.heap.size w w0) (hL : Laid w0) (m1 : IsMsg w1 w0.heap.size []) (b1 : Below w0.heap.size w0 w1) (s1 : w1.heap.size = w0.heap.size + 1) (m2 : IsMsg w2 w1.heap.size []) (b2 : Below w1.heap.size w1 w2) (s2 : w2.heap.size = w1.heap.size + 1) :
    W2 w w0.heap.size w1.heap.size [] [] w2 :=
  ⟨m1.keep (b2.block _ (by omega)), m2, (hL.below b1 hL.1).below b2 (by omega), (b0.trans (b1.mono b0.size)).trans (b2.mono (by have := b0.size; omega)), hL.1, by have := hL.1; omega, b0.size, by omega, by omega⟩

set_option maxRecDepth 100000 in
set_option maxHeartbeats 1600000 in
theorem fresh_law (a b : ByteArray) (w : World) (hL : Laid w) : Calls Tryd.prog 5 #[.string a, .string b] w fun e w' => e = .returned (.bool true) ∧ Below w.heap.size w w' := by
  have HL := Lib.hid hL
  clear hL
  by_cases hab : a.size ≤ 300 ∧ b.size ≤ 300
  · obtain ⟨ha, hb⟩ := hab
    have i1 : ((a.size : Int) ≤ 300) := by omega
    have i2 : ((b.size : Int) ≤ 300) := by omega
    have la : (bl a).length ≤ 300 := by rw [bl_length]; exact ha
    have lb : (bl b).length ≤ 300 := by rw [bl_length]; exact hb
    go_enter Tryd.func5, Tryd.ntmps5
    go_wp2_with (first | ((with_reducible refine (works_any _ HL.out).mono ?_); rintro e w0 ⟨rfl, b0⟩; have K0 := Lib.hid (And.intro b0 (HL.out.below b0 HL.out.1)); clear b0) | ((with_reducible refine (new_msg _ K1.out.2.2.2).mono ?_); rintro e w2 ⟨rfl, m2, b2, s2⟩; have K := Lib.hid (W2.made K0.out.1 K0.out.2 K1.out.1 K1.out.2.1 K1.out.2.2.1.out m2 b2 s2.out); clear m2 b2 s2) | ((with_reducible refine (new_msg _ K0.out.2).mono ?_); rintro e w1 ⟨rfl, m1, b1, s1⟩; have K1 := Lib.hid (And.intro m1 (And.intro b1 (And.intro s1 (K0.out.2.below b1 K0.out.2.1)))); clear m1 b1 s1))
    generalize w0.heap.size = g at K ⊢
    generalize w1.heap.size = k at K ⊢
    go_wp2_with (first | ((with_reducible refine (write_msg g _ [] (bl a) a rfl K.out.h1 K.out.laid K.out.p1 (by first | (simp; omega) | omega)).mono ?_); rintro e w' ⟨rfl, m', o'⟩; replace K := Lib.hid (K.out.first m' o'); clear m' o') | ((with_reducible refine (write_msg k _ [] (bl b) b rfl K.out.h2 K.out.laid K.out.p2 (by first | (simp; omega) | omega)).mono ?_); rintro e w' ⟨rfl, m', o'⟩; replace K := Lib.hid (K.out.second m' o'); clear m' o') | ((with_reducible refine (write_msg g _ (bl a) (bl a ++ bl b) b rfl K.out.h1 K.out.laid K.out.p1 (by first | (simp; omega) | omega)).mono ?_); rintro e w' ⟨rfl, m', o'⟩; replace K := Lib.hid (K.out.first m' o'); clear m' o') | ((with_reducible refine (write_msg k _ (bl b) (bl b ++ bl a) a rfl K.out.h2 K.out.laid K.out.p2 (by first | (simp; omega) | omega)).mono ?_); rintro e w' ⟨rfl, m', o'⟩; replace K := Lib.hid (K.out.second m' o'); clear m' o') | ((with_reducible refine (sum_msg g _ (bl a) K.out.h1 K.out.laid (by first | (simp; omega) | omega)).mono ?_); rintro e w' ⟨rfl, b'⟩; replace K := Lib.hid (K.out.below b'); clear b') | ((with_reducible refine (sum_msg k _ (bl b) K.out.h2 K.out.laid (by first | (simp; omega) | omega)).mono ?_); rintro e w' ⟨rfl, b'⟩; replace K := Lib.hid (K.out.below b'); clear b') | ((with_reducible refine (sum_msg g _ (bl a ++ bl b) K.out.h1 K.out.laid (by first | (simp; omega) | omega)).mono ?_); rintro e w' ⟨rfl, b'⟩; replace K := Lib.hid (K.out.below b'); clear b') | ((with_reducible refine (sum_msg k _ (bl b ++ bl a) K.out.h2 K.out.laid (by first | (simp; omega) | omega)).mono ?_); rintro e w' ⟨rfl, b'⟩; replace K := Lib.hid (K.out.below b'); clear b') | ((with_reducible refine (of_one' a _ K.out.laid (by omega)).mono ?_); rintro e w' ⟨rfl, b'⟩; replace K := Lib.hid (K.out.below b'); clear b') | ((with_reducible refine (of_one' b _ K.out.laid (by omega)).mono ?_); rintro e w' ⟨rfl, b'⟩; replace K := Lib.hid (K.out.below b'); clear b') | ((with_reducible refine (of_cat a b _ K.out.laid (by omega)).mono ?_); rintro e w' ⟨rfl, b'⟩; replace K := Lib.hid (K.out.below b'); clear b') | ((with_reducible refine (of_two b a _ K.out.laid (by omega) (by omega)).mono ?_); rintro e w' ⟨rfl, b'⟩; replace K := Lib.hid (K.out.below b'); clear b'))
    go_ret
    exact ⟨rfl, K.out.bel⟩
  · have hab' : ¬ ((a.size : Int) ≤ 300 ∧ (b.size : Int) ≤ 300) := by omega
    by_cases ha : a.size ≤ 300
    all_goals
      have i1 : ((a.size : Int) ≤ 300) ∨ ¬ ((a.size : Int) ≤ 300) := by omega
      have i3 : (300 : Int) < (a.size : Int) ∨ (300 : Int) < (b.size : Int) := by omega
      clear i1
      go_enter Tryd.func5, Tryd.ntmps5
      go_wp2_with (first | ((with_reducible refine (works_any _ HL.out).mono ?_); rintro e w0 ⟨rfl, b0⟩; have K0 := Lib.hid (And.intro b0 (HL.out.below b0 HL.out.1)); clear b0) | ((with_reducible refine (new_msg _ K1.out.2.2.2).mono ?_); rintro e w2 ⟨rfl, m2, b2, s2⟩; have K := Lib.hid (W2.made K0.out.1 K0.out.2 K1.out.1 K1.out.2.1 K1.out.2.2.1.out m2 b2 s2.out); clear m2 b2 s2) | ((with_reducible refine (new_msg _ K0.out.2).mono ?_); rintro e w1 ⟨rfl, m1, b1, s1⟩; have K1 := Lib.hid (And.intro m1 (And.intro b1 (And.intro s1 (K0.out.2.below b1 K0.out.2.1)))); clear m1 b1 s1))
      go_ret
      exact ⟨rfl, K.out.bel⟩
end Go.Proofs.YtmgpgjookiknkaaDoor
