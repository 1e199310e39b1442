/- Nibbles: the document's Common, and the walk of NibbleIs. -/
import Derived.Test.YthnlhbbcidemnaaY
namespace Go.Proofs.Ythnlhbbcidemnaa
open Go.RowKit

theorem cons_of {p : ByteArray} (h : 0 < p.size) : p.data.toList = p[0] :: (p.extract 1 p.size).data.toList := by
  have hl : 0 < p.data.toList.length := by simpa using h
  have e : (p.extract 1 p.size).data.toList = p.data.toList.drop 1 := by
    rw [Lib.extract_data]
    exact List.take_of_length_le (by simp)
  rw [e, ← at_list h, ← List.drop_eq_getElem_cons hl, List.drop_zero]
theorem size_tail {p : ByteArray} : (p.extract 1 p.size).size = p.size - 1 := by
  simp [ByteArray.size_extract]
theorem empty_yes {p : ByteArray} (h : p.size = 0) : p.toList.isEmpty = true := by
  rw [Lib.toList_data]
  have : p.data.toList.length = 0 := by simpa using h
  rw [List.eq_nil_of_length_eq_zero this]; rfl
theorem empty_no {p : ByteArray} (h : 0 < p.size) : p.toList.isEmpty = false := by
  rw [Lib.toList_data, cons_of h]; rfl

set_option maxHeartbeats 1600000 in
theorem rcommon_any : ∀ (n : Nat) (a b : ByteArray) (w : World), a.size = n → n ≤ 1000 → b.size ≤ 1000 → Calls Try.prog 16 #[.string a, .string b] w fun e w' => e = .returned (.int .i64 (commonL a.data.toList b.data.toList)) ∧ Drawn w w'
  | 0, a, b, w, hn, h1, h2 => by
    have e1 := empty_yes hn
    have hc : Hid (commonL a.data.toList b.data.toList = 0) := by
      have : a.data.toList = [] := List.eq_nil_of_length_eq_zero (by simpa using hn)
      rw [Hid, this]; rfl
    clear hn
    go_enter Try.func16, Try.ntmps16
    go_wp2_with fail
    go_quiet (fail)
    go_wp2_with fail
    go_ret
    rw [hc.out]
    exact ⟨rfl, ⟨_, rfl⟩⟩
  | n + 1, a, b, w, hn, h1, h2 => by
    have ha : 0 < a.size := by omega
    have ea := empty_no ha
    by_cases hb : 0 < b.size
    · have eb := empty_no hb
      have j1 : (0 : Int) < (a.size : Int) := by omega
      have j2 : (0 : Int) < (b.size : Int) := by omega
      have ca := cons_of ha
      have cb := cons_of hb
      by_cases he : a[0] = b[0]
      · have t1 : (((a[0].toNat : Nat) : Int) != ((b[0].toNat : Nat) : Int)) = false := by rw [he]; simp
        have hc : Hid (((commonL a.data.toList b.data.toList : Nat) : Int) = 1 + (commonL (a.extract 1 a.size).data.toList (b.extract 1 b.size).data.toList : Nat)) := by
          rw [Hid, ca, cb, he]
          simp [commonL]
          omega
        have ih := fun W => rcommon_any n (a.extract 1 a.size) (b.extract 1 b.size) W (by rw [size_tail]; omega) (by omega) (by rw [size_tail]; omega)
        have hle := (commonL_le (a.extract 1 a.size).data.toList (b.extract 1 b.size).data.toList).1
        have hl2 : (a.extract 1 a.size).data.toList.length ≤ 1000 := by
          rw [show (a.extract 1 a.size).data.toList.length = (a.extract 1 a.size).size by simp, size_tail]; omega
        have k1 : commonL (a.extract 1 a.size).data.toList (b.extract 1 b.size).data.toList ≤ 1000 := by omega
        clear hle hl2
        generalize commonL (a.extract 1 a.size).data.toList (b.extract 1 b.size).data.toList = c at hc ih k1
        have k2 : IntKind.i64.wrap (1 + (c : Int)) = 1 + (c : Int) := IntWalk.i64_in _ (by omega)
        have i1 : (1 : Int) ≤ (a.size : Int) := by omega
        have i2 : (1 : Int) ≤ (b.size : Int) := by omega
        have IH := Lib.hid ih
        clear ih ca cb he hn
        go_enter Try.func16, Try.ntmps16
        go_wp2_with fail
        go_quiet (fail)
        go_wp2_with fail
        obtain ⟨w1, hw1⟩ : ∃ w1, w1 = w.drewN nq := ⟨_, rfl⟩
        have D1 : Hid (Drawn w w1) := ⟨nq, hw1⟩
        rw [← hw1]
        clear hw1
        go_quiet ((go_at_call 16; exact Calls.quiet_of (IH.out _)))
        go_wp2_with fail
        go_ret
        rw [hc.out]
        exact ⟨rfl, D1.out.drewN _⟩
      · have t1 : (((a[0].toNat : Nat) : Int) != ((b[0].toNat : Nat) : Int)) = true := by
          rw [bne_iff_ne]
          exact fun h => he (UInt8.toNat_inj.1 (by omega))
        have hc : Hid (commonL a.data.toList b.data.toList = 0) := by
          rw [Hid, ca, cb]
          simp [commonL, he]
        clear ca cb he hn
        go_enter Try.func16, Try.ntmps16
        go_wp2_with fail
        go_quiet (fail)
        go_wp2_with fail
        go_ret
        rw [hc.out]
        exact ⟨rfl, ⟨_, rfl⟩⟩
    · have eb := empty_yes (p := b) (by omega)
      have hc : Hid (commonL a.data.toList b.data.toList = 0) := by
        have hz : b.data.toList.length = b.size := by simp
        have : b.data.toList = [] := List.eq_nil_of_length_eq_zero (by omega)
        rw [Hid, this]
        cases a.data.toList <;> rfl
      clear hn hb
      go_enter Try.func16, Try.ntmps16
      go_wp2_with fail
      go_quiet (fail)
      go_wp2_with fail
      go_ret
      rw [hc.out]
      exact ⟨rfl, ⟨_, rfl⟩⟩

set_option maxHeartbeats 1600000 in
set_option maxRecDepth 100000 in
theorem is_any (a b : ByteArray) (w : World) : Calls Try.prog 3 #[.string a, .string b] w fun e w' => e = .returned (.bool true) ∧ Below w.heap.size w w' := by
  by_cases hs : 200 < a.size ∨ 200 < b.size
  · rcases hs with hs | hs
    · go_enter Try.func3, Try.ntmps3
      go_wp2_with fail
      refine (works_any w).mono ?_
      rintro e w1 ⟨rfl, b1⟩
      go_wp2
      go_ret
      exact ⟨rfl, b1⟩
    · go_enter Try.func3, Try.ntmps3
      go_wp2_with fail
      refine (works_any w).mono ?_
      rintro e w1 ⟨rfl, b1⟩
      go_wp2
      all_goals
        go_ret
        exact ⟨rfl, b1⟩
  · have ha : a.size ≤ 200 := by omega
    have hb : b.size ≤ 200 := by omega
    clear hs
    go_enter Try.func3, Try.ntmps3
    go_wp2_with fail
    refine (works_any w).mono ?_
    rintro e w1 ⟨rfl, b1⟩
    go_wp2_with fail
    refine (key_any b w1 (by omega)).mono ?_
    rintro e w2 ⟨rfl, b2⟩
    have b2 := b1.trans (b2.mono b1.size)
    go_wp2_with fail
    refine (rkey_any b w2 (by omega)).mono ?_
    rintro e w3 ⟨rfl, b3⟩
    have b3 := b2.trans (b3.mono b2.size)
    go_wp2_with fail
    refine (path_any a w3 (by omega)).mono ?_
    rintro e w4 ⟨rfl, b4⟩
    have b4 := b3.trans (b4.mono b3.size)
    go_wp2_with fail
    refine (rpath_any a w4 (by omega)).mono ?_
    rintro e w5 ⟨rfl, b5⟩
    have b5 := b4.trans (b5.mono b4.size)
    go_wp2_with fail
    refine (valid_any b w5 (by omega)).mono ?_
    rintro e w6 ⟨rfl, rfl⟩
    go_wp2_with fail
    refine (rvalid_any b w6 (by omega)).mono ?_
    rintro e w7 ⟨rfl, rfl⟩
    go_wp2_with fail
    refine (common_any a b w7 (by omega) (by omega)).mono ?_
    rintro e w8 ⟨rfl, d8⟩
    go_wp2_with fail
    refine (rcommon_any _ a b w8 rfl (by omega) (by omega)).mono ?_
    rintro e w9 ⟨rfl, d9⟩
    go_wp2
    go_ret
    exact ⟨rfl, (b5.trans (d8.below _)).trans (d9.below _)⟩

end Go.Proofs.Ythnlhbbcidemnaa
