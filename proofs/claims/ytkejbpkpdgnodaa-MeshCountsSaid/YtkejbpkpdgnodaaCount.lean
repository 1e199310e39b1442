/- Counting: what each act does to the number of frames that are alike. Plain. -/
import Derived.Test.YtkejbpkpdgnodaaDoubles
namespace Go.Proofs.Ytkejbpkpdgnodaa

/-- 1, if it is so. -/
def one (b : Bool) : Nat := if b = true then 1 else 0
def isS (s x : ByteArray) : Bool := x.toList == s.toList
theorem cnt_nil (s : ByteArray) : cnt s [] = 0 := rfl
theorem cnt_append (s : ByteArray) (A B : List ByteArray) : cnt s (A ++ B) = cnt s A + cnt s B := List.countP_append
theorem cnt_cons (s x : ByteArray) (A : List ByteArray) : cnt s (x :: A) = cnt s A + one (isS s x) := by
  unfold cnt one isS
  rw [List.countP_cons]
theorem cnt_cut (s : ByteArray) {L : List ByteArray} {k : Nat} (h : k < L.length) : cnt s (L.take k ++ L.drop (k + 1)) + one (isS s L[k]) = cnt s L := by
  conv => rhs; rw [← List.take_append_drop k L, List.drop_eq_getElem_cons h]
  rw [cnt_append, cnt_append, cnt_cons]
  omega
theorem cnt_moved (s : ByteArray) {L : List ByteArray} {k j : Nat} (hk : k < L.length) : cnt s (movedAt k j L) = cnt s L := by
  unfold movedAt
  have h := cnt_cut s hk
  rw [show L[k]?.getD ByteArray.empty = L[k] by simp [hk]]
  generalize L.take k ++ L.drop (k + 1) = K at h
  rw [cnt_append, cnt_cons]
  have h2 := cnt_append s (K.take j) (K.drop j)
  rw [List.take_append_drop] at h2
  omega

/-- Is the frame at the act's place s? -/
def atB (a : MAct) (s : ByteArray) (L : List ByteArray) : Bool := there a.n L && isS s (L[a.n.toNat]?.getD ByteArray.empty)

theorem cnt_sent {room : Int} {L : List ByteArray} (s x : ByteArray) : cnt s (sentL room L x) = cnt s L + one (sentB room L && isS s x) := by
  by_cases h : (L.length : Int) < room
  · rw [sentL_yes h, sentB_yes h, cnt_append, cnt_cons, cnt_nil]; simp
  · rw [sentL_no h, sentB_no h]; simp [one]
theorem cnt_taken {n : Int} {L : List ByteArray} (s : ByteArray) : cnt s (takenL n L) + one (there n L && isS s (L[n.toNat]?.getD ByteArray.empty)) = cnt s L := by
  by_cases h : 0 ≤ n ∧ n < (L.length : Int)
  · obtain ⟨k, rfl⟩ := Int.eq_ofNat_of_zero_le h.1
    have hk : k < L.length := by omega
    rw [takenL_yes hk, there_true h.1 h.2, Bool.true_and, ← cnt_cut s hk]
    simp [hk]
  · rw [takenL_no h, there_false h]; simp [one]
theorem cnt_doubled {room n : Int} {L : List ByteArray} (s : ByteArray) : cnt s (doubledL room n L) = cnt s L + one (doubledB room n L && isS s (L[n.toNat]?.getD ByteArray.empty)) := by
  unfold doubledL doubledB
  cases there n L with
  | true => rw [if_pos rfl, cnt_sent]; simp
  | false => simp [one]
theorem cnt_movedL {n to : Int} {L : List ByteArray} (s : ByteArray) : cnt s (movedL n to L) = cnt s L := by
  by_cases h : 0 ≤ n ∧ n < (L.length : Int)
  · by_cases h2 : 0 ≤ to ∧ to < (L.length : Int)
    · obtain ⟨k, rfl⟩ := Int.eq_ofNat_of_zero_le h.1
      obtain ⟨j, rfl⟩ := Int.eq_ofNat_of_zero_le h2.1
      rw [movedL_yes (by omega) (by omega)]
      exact cnt_moved s (by omega)
    · rw [movedL_no' h2]
  · rw [movedL_no h]

/-- The number behind an act that sends, or doubles. -/
def adds (room : Int) (a : MAct) (s : ByteArray) (L : List ByteArray) : Bool := doB room a L && (decide (a.k = 0) && isS s a.s || decide (a.k = 3) && atB a s L)
def lessens (room : Int) (a : MAct) (s : ByteArray) (L : List ByteArray) : Bool := doB room a L && atB a s L && (decide (a.k = 1) || decide (a.k = 2))
theorem cnt_do {room : Int} {a : MAct} {L : List ByteArray} (s : ByteArray) : cnt s (doL room a L) + one (lessens room a s L) = cnt s L + one (adds room a s L) := by
  have h1 := cnt_sent (room := room) (L := L) s a.s
  have h2 := cnt_taken (n := a.n) (L := L) s
  have h3 := cnt_doubled (room := room) (n := a.n) (L := L) s
  have h4 := cnt_movedL (n := a.n) (to := a.to) (L := L) s
  unfold adds lessens doL doB atB
  by_cases e0 : a.k = 0
  · simp only [e0, if_true, decide_true, Bool.true_and, show ¬ (0 : Int) = 3 by decide, show ¬ (0 : Int) = 1 by decide, show ¬ (0 : Int) = 2 by decide, decide_false, Bool.false_and, Bool.or_false, Bool.and_false]
    rw [h1]; simp [one]
  · by_cases e1 : a.k = 1
    · simp [e1, one] at h2 ⊢; omega
    · by_cases e2 : a.k = 2
      · simp [e2, one] at h2 ⊢; omega
      · by_cases e3 : a.k = 3
        · simp only [e3, if_true, decide_true, Bool.true_and, show ¬ (3 : Int) = 0 by decide, show ¬ (3 : Int) = 1 by decide, show ¬ (3 : Int) = 2 by decide, if_false, decide_false, Bool.false_and, Bool.or_false, Bool.false_or, Bool.and_false]
          rw [h3]
          unfold doubledB
          cases there a.n L <;> simp [one]
        · simp [e0, e1, e2, e3, one, h4]
theorem doS_at {room : Int} {a : MAct} {L : List ByteArray} {s : ByteArray} (h : a.k = 1) (hb : doB room a L = true) : (isS s (doS a L)) = atB a s L := by
  rw [(do_at1 h).2.2] at hb
  rw [(do_at1 (room := room) h).2.1]
  unfold atB takenS
  rw [hb]
  simp

end Go.Proofs.Ytkejbpkpdgnodaa
