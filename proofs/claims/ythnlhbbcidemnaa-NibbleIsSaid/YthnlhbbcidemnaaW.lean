/- Nibbles: the walks of NibbleSizes, NibbleJoins, NibbleOrder. -/
import Derived.Test.YthnlhbbcidemnaaP
import Derived.Test.YthnlhbbcidemnaaE
namespace Go.Proofs.Ythnlhbbcidemnaa
open Go.RowKit

theorem less_bytes : ∀ a b : List UInt8, Op.bytesLess a b = lessL a b
  | _, [] => by cases ‹List UInt8› <;> rfl
  | [], _ :: _ => rfl
  | a :: r, b :: t => by
    unfold Op.bytesLess lessL
    rw [less_bytes r t]
    by_cases h1 : a.toNat < b.toNat
    · have : a < b := h1
      simp [this, h1]
    · have h1' : ¬ a < b := h1
      rw [if_neg h1]
      by_cases h2 : b.toNat < a.toNat
      · have : a ≠ b := fun h => by rw [h] at h2; omega
        rw [if_pos h2]; simp [h1', this]
      · have : a = b := UInt8.toNat_inj.1 (by omega)
        rw [if_neg h2]; subst this; simp

theorem text_self (p : ByteArray) : text p.data.toList = p := WideShapes.bytes_inj rfl
theorem text_append (a b : List UInt8) : text (a ++ b) = text a ++ text b := WideShapes.bytes_inj (by rw [cat_data, text_data, text_data, text_data])
theorem size_path (p : ByteArray) : (text (pathL p.data.toList)).size = 2 * p.size := by rw [size_text, length_pathL]; simp
theorem key_path (p : ByteArray) (w : World) (hs : p.size ≤ 500) : Calls Try.prog 9 #[.string (text (pathL p.data.toList))] w fun e w' => e = .returned (.tuple #[.string p, .bool true]) ∧ Below w.heap.size w w' := by
  have h := key_any (text (pathL p.data.toList)) w (by rw [size_path]; omega)
  rw [text_data, keyL_pathL, keyB_pathL, text_self] at h
  exact h
theorem common_front (a b : ByteArray) (w : World) (hs : (a ++ b).size ≤ 1000) (ht : a.size ≤ 1000) : Calls Try.prog 15 #[.string (a ++ b), .string a] w fun e w' => e = .returned (.int .i64 a.size) ∧ Drawn w w' := by
  have h := common_any (a ++ b) a w hs ht
  rw [cat_data, commonL_front, show a.data.toList.length = a.size by simp] at h
  exact h

set_option maxHeartbeats 1600000 in
set_option maxRecDepth 100000 in
theorem sizes_any (p : ByteArray) (leaf : Bool) (w : World) : Calls Try.prog 6 #[.string p, .bool leaf] w fun e w' => e = .returned (.bool true) ∧ Below w.heap.size w w' := by
  by_cases hs : 200 < p.size
  · go_enter Try.func6, Try.ntmps6
    go_wp2_with fail
    refine (works_any w).mono ?_
    rintro e w1 ⟨rfl, b1⟩
    go_wp2
    go_ret
    exact ⟨rfl, b1⟩
  · have hpz : p.data.toList.length = p.size := by simp
    have hl := length_putL p.data.toList leaf
    rw [hpz] at hl
    have HL := Lib.hid hl
    clear hl hpz
    go_enter Try.func6, Try.ntmps6
    go_wp2_with fail
    refine (works_any w).mono ?_
    rintro e w1 ⟨rfl, b1⟩
    have hp := put_any p leaf w1 (by omega)
    cases hv : validL p.data.toList with
    | false =>
      rw [hv] at hp
      have HP := Lib.hid hp
      clear hp hv
      go_wp2_with fail
      refine HP.out.mono ?_
      rintro e w2 ⟨rfl, b2⟩
      go_wp2
      go_ret
      exact ⟨rfl, b1.trans (b2.mono b1.size)⟩
    | true =>
      rw [hv] at hp
      have HP := Lib.hid hp
      have hz : (text (putL p.data.toList leaf)).size = 1 + p.size / 2 := by rw [size_text, HL.out hv]
      have t1 : (((text (putL p.data.toList leaf)).size : Int) == 1 + (p.size : Int) / 2) = true := by rw [hz, beq_iff_eq]; omega
      clear hp hv hz
      go_wp2_with fail
      refine HP.out.mono ?_
      rintro e w2 ⟨rfl, b2⟩
      go_wp2
      go_ret
      exact ⟨rfl, b1.trans (b2.mono b1.size)⟩

set_option maxHeartbeats 1600000 in
set_option maxRecDepth 100000 in
theorem joins_any (a b : ByteArray) (w : World) : Calls Try.prog 7 #[.string a, .string b] w fun e w' => e = .returned (.bool true) ∧ Below w.heap.size w w' := by
  by_cases hs : 200 < a.size ∨ 200 < b.size
  · rcases hs with hs | hs
    · go_enter Try.func7, Try.ntmps7
      go_wp2_with fail
      refine (works_any w).mono ?_
      rintro e w1 ⟨rfl, b1⟩
      go_wp2
      go_ret
      exact ⟨rfl, b1⟩
    · go_enter Try.func7, Try.ntmps7
      go_wp2_with fail
      refine (works_any w).mono ?_
      rintro e w1 ⟨rfl, b1⟩
      go_wp2
      all_goals
        go_ret
        exact ⟨rfl, b1⟩
  · have ha : a.size ≤ 200 := by omega
    have hb : b.size ≤ 200 := by omega
    clear hs
    go_enter Try.func7, Try.ntmps7
    go_wp2_with fail
    refine (works_any w).mono ?_
    rintro e w1 ⟨rfl, b1⟩
    go_wp2_with fail
    refine (path_any a w1 (by omega)).mono ?_
    rintro e w2 ⟨rfl, b2⟩
    have b2 := b1.trans (b2.mono b1.size)
    go_wp2_with fail
    refine (path_any b w2 (by omega)).mono ?_
    rintro e w3 ⟨rfl, b3⟩
    have b3 := b2.trans (b3.mono b2.size)
    have z1 : (text (pathL a.data.toList)).size ≤ 400 := by rw [size_path]; omega
    have z2 : (text (pathL b.data.toList)).size ≤ 400 := by rw [size_path]; omega
    have hk : Calls Try.prog 9 #[.string (text (pathL a.data.toList) ++ text (pathL b.data.toList))] w3 fun e w' => e = .returned (.tuple #[.string (a ++ b), .bool true]) ∧ Below w3.heap.size w3 w' := by
      have h := key_path (a ++ b) w3 (by rw [ByteArray.size_append]; omega)
      rw [cat_data, pathL_append, text_append] at h
      exact h
    have HK := Lib.hid hk
    clear hk
    go_wp2_with fail
    refine HK.out.mono ?_
    rintro e w4 ⟨rfl, b4⟩
    have b4 := b3.trans (b4.mono b3.size)
    have hp : Calls Try.prog 11 #[.string (a ++ b)] w4 fun e w' => e = .returned (.string (text (pathL a.data.toList) ++ text (pathL b.data.toList))) ∧ Below w4.heap.size w4 w' := by
      have h := path_any (a ++ b) w4 (by rw [ByteArray.size_append]; omega)
      rw [cat_data, pathL_append, text_append] at h
      exact h
    have HP := Lib.hid hp
    clear hp HK
    go_wp2_with fail
    refine HP.out.mono ?_
    rintro e w5 ⟨rfl, b5⟩
    have b5 := b4.trans (b5.mono b4.size)
    go_wp2_with fail
    refine (path_any a w5 (by omega)).mono ?_
    rintro e w6 ⟨rfl, b6⟩
    have b6 := b5.trans (b6.mono b5.size)
    go_wp2_with fail
    refine (path_any b w6 (by omega)).mono ?_
    rintro e w7 ⟨rfl, b7⟩
    have b7 := b6.trans (b7.mono b6.size)
    go_wp2_with fail
    refine (common_front a b w7 (by rw [ByteArray.size_append]; omega) (by omega)).mono ?_
    rintro e w8 ⟨rfl, d8⟩
    go_wp2
    go_ret
    exact ⟨rfl, b7.trans (d8.below _)⟩

set_option maxHeartbeats 1600000 in
set_option maxRecDepth 100000 in
theorem order_any (a b : ByteArray) (w : World) : Calls Try.prog 4 #[.string a, .string b] w fun e w' => e = .returned (.bool true) ∧ Below w.heap.size w w' := by
  by_cases hs : 200 < a.size ∨ 200 < b.size
  · rcases hs with hs | hs
    · go_enter Try.func4, Try.ntmps4
      go_wp2_with fail
      refine (works_any w).mono ?_
      rintro e w1 ⟨rfl, b1⟩
      go_wp2
      go_ret
      exact ⟨rfl, b1⟩
    · go_enter Try.func4, Try.ntmps4
      go_wp2_with fail
      refine (works_any w).mono ?_
      rintro e w1 ⟨rfl, b1⟩
      go_wp2
      all_goals
        go_ret
        exact ⟨rfl, b1⟩
  · have ha : a.size ≤ 200 := by omega
    have hb : b.size ≤ 200 := by omega
    clear hs
    have hz := size_path a
    have t1 : (((text (pathL a.data.toList)).size : Int) == 2 * (a.size : Int)) = true := by rw [beq_iff_eq, hz]; omega
    have hv : validL (text (pathL a.data.toList)).data.toList = true := by rw [text_data]; exact valid_pathL _
    have hlt : Op.bytesLess (text (pathL a.data.toList)).toList (text (pathL b.data.toList)).toList = Op.bytesLess a.toList b.toList := by
      rw [less_bytes, less_bytes, Lib.toList_data, Lib.toList_data, Lib.toList_data, Lib.toList_data, text_data, text_data, lessL_pathL]
    have t2 : (Op.bytesLess (text (pathL a.data.toList)).toList (text (pathL b.data.toList)).toList == Op.bytesLess a.toList b.toList) = true := by rw [hlt]; simp
    clear hz hlt
    have HV := Lib.hid hv
    clear hv
    go_enter Try.func4, Try.ntmps4
    go_wp2_with fail
    refine (works_any w).mono ?_
    rintro e w1 ⟨rfl, b1⟩
    go_wp2_with fail
    refine (path_any a w1 (by omega)).mono ?_
    rintro e w2 ⟨rfl, b2⟩
    have b2 := b1.trans (b2.mono b1.size)
    go_wp2_with fail
    refine (key_path a w2 (by omega)).mono ?_
    rintro e w3 ⟨rfl, b3⟩
    have b3 := b2.trans (b3.mono b2.size)
    have hvc := valid_any (text (pathL a.data.toList)) w3 (by rw [size_path]; omega)
    rw [HV.out] at hvc
    have HVC := Lib.hid hvc
    clear hvc
    go_wp2_with fail
    refine HVC.out.mono ?_
    rintro e w4 ⟨rfl, rfl⟩
    go_wp2_with fail
    refine (path_any b w4 (by omega)).mono ?_
    rintro e w5 ⟨rfl, b5⟩
    have b5 := b3.trans (b5.mono b3.size)
    go_wp2
    go_ret
    exact ⟨rfl, b5⟩

end Go.Proofs.Ythnlhbbcidemnaa
