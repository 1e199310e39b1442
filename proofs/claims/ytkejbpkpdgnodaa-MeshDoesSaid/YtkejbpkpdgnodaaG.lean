/- The contracts of All and Count. -/
import Derived.Test.YtkejbpkpdgnodaaF
namespace Go.Proofs.Ytkejbpkpdgnodaa
open Go.RowKit

set_option maxHeartbeats 800000 in
theorem all_any (m : Nat) (room : Int) (L : List ByteArray) (w : World) (hm : IsMesh w m room L) (hL : L.length ≤ 64) :
    Calls Try.prog 15 #[.pointer (some ⟨m, 0, none⟩)] w fun e w' => ∃ g, e = .returned (.slice (some ⟨g, 0, none⟩) L.length L.length) ∧ w.heap.size ≤ g ∧
      w'.heap[g]? = some (.cells (L.map Value.string).toArray 9 (0, 0)) ∧ Only w w' (fun _ => False) := by
  obtain ⟨i0, hi, hz0, hz1, hz2⟩ := info_parts info9
  obtain ⟨v, hb, ho⟩ := hm
  have hlt := lt_of_block hb
  have c1 : w.cell? ⟨m, 1, none⟩ = some v := by simp [World.cell?, hb]
  obtain ⟨sp, cap, rfl⟩ := own_shape ho
  go_enter Try.func15, Try.ntmps15
  go_wp2_with (at_make; refine wpList_make_full _ rfl _ _ 27 rfl 0 9 i0 (.string ByteArray.empty) 1 Try.underlying27 hi hz0 hz1 .i64 .i64 _ _ L.length rfl rfl rfl rfl ?c3 ?c4 ?c5 ?_)
  case c3 => rw [hz2]; omega
  case c4 => unfold maxLen; omega
  case c5 => omega
  intro w1 hown hgrow
  have hb1 := (hgrow.block m hlt (by simp)).trans hb
  have hB1 : Below w.heap.size w w1 := (Below.refl _ w).grown hgrow (Nat.le_refl _) (fun k h => by cases h)
  have c1 : w1.cell? ⟨m, 1, none⟩ = some (.slice sp L.length cap) := by simp [World.cell?, hb1]
  obtain ⟨Z, hzl, hg1⟩ := own_some hown
  clear hown hi hz0 hz1 hz2
  obtain ⟨X, hX⟩ : ∃ X, X = L.map Value.string := ⟨_, rfl⟩
  have hxl : X.length = L.length := by rw [hX]; simp
  have HX := Lib.hid hX
  have HX1 := Lib.hid hxl
  have HZ := Lib.hid hzl
  clear hX hxl hzl
  go_wp2_with (with_reducible refine wpList_copy_splice rfl (.tmp 10) (.tmp 14) 27 27 rfl 9 Try.underlying27 size9 _ _ _ _ _ _ rfl rfl w.heap.size 0 Z 9 hg1 X ?d1 ?d2 ?d3 ?d4 w.heap.size w hB1 (Nat.le_refl _) ?_)
  case d1 => rw [HX1.out]; exact (Nat.min_self _).symm
  case d2 =>
    intro h0
    obtain ⟨g, rfl, hgl, hc⟩ := own_src ho (by have := HX1.out; omega)
    refine ⟨_, rfl, fun j u hj => ?_⟩
    rw [Addr.add_lit, Nat.zero_add, hB1.cell (by exact hgl)]
    exact hc j u (by rw [← HX.out]; exact hj)
  case d3 =>
    have e1 := HX1.out
    have e2 := HZ.out
    omega
  case d4 => rw [HX.out]; exact strs_one _
  intro w2 HG2 hB2
  go_wp2
  go_ret
  refine ⟨w.heap.size, rfl, Nat.le_refl _, ?_, Only.of_below _ hB2⟩
  have e1 := HX1.out
  have e2 := HZ.out
  rw [HG2.out, ← HX.out]
  have : splice Z 0 X = X := by
    unfold splice
    rw [List.take_zero, List.nil_append, List.drop_eq_nil_of_le (by omega), List.append_nil]
  rw [this]

/-- How many are alike. -/
def cnt (s : ByteArray) (L : List ByteArray) : Nat := L.countP (fun x => x.toList == s.toList)
theorem cnt_succ (s : ByteArray) (L : List ByteArray) {k : Nat} (h : k < L.length) : cnt s (L.take (k + 1)) = cnt s (L.take k) + if (L[k].toList == s.toList) = true then 1 else 0 := by
  unfold cnt
  rw [List.take_succ_eq_append_getElem h, List.countP_append, List.countP_cons, List.countP_nil, Nat.zero_add]
theorem cnt_le (s : ByteArray) (L : List ByteArray) : cnt s L ≤ L.length := List.countP_le_length

set_option maxHeartbeats 800000 in
theorem count_any (m : Nat) (room : Int) (s : ByteArray) (L : List ByteArray) (w : World) (hm : IsMesh w m room L) (hL : L.length ≤ 64) :
    Calls Try.prog 16 #[.pointer (some ⟨m, 0, none⟩), .string s] w fun e w' => e = .returned (.int .i64 (cnt s L)) ∧ w = w' := by
  obtain ⟨v, hb, ho⟩ := hm
  have c1 : w.cell? ⟨m, 1, none⟩ = some v := by simp [World.cell?, hb]
  obtain ⟨sp, cap, rfl⟩ := own_shape ho
  have hsrc : 0 < L.length → ∃ g, sp = some ⟨g, 0, none⟩ ∧ g < w.heap.size ∧ ∀ j u, (L.map Value.string)[j]? = some u → w.cell? ⟨g, j, none⟩ = some u := own_src ho
  have Hsrc := Lib.hid hsrc
  clear hsrc
  go_enter Try.func16, Try.ntmps16
  go_wp2
  go_loop [5, 6, 12] (fun c _ i => ∃ k : Nat, k ≤ L.length ∧ i = .int .i64 k ∧ c = .int .i64 (cnt s (L.take k))) (fun _ _ i => L.length - (intOf i).toNat)
  case atStart => exact ⟨0, Nat.zero_le _, rfl, rfl⟩
  case round =>
    obtain ⟨k, hk, rfl, rfl⟩ := hrel
    by_cases hlk : k < L.length
    · obtain ⟨g, rfl, hgl, hc⟩ := Hsrc.out (by omega)
      have hck : w.cell? ⟨g, k, none⟩ = some (.string L[k]) := hc k _ (by simp [hlk])
      have hs := Lib.hid (cnt_succ s L hlk)
      have hle : cnt s (L.take k) ≤ k := Nat.le_trans (cnt_le _ _) (List.length_take_le _ _)
      by_cases heq : (L[k].toList == s.toList) = true
      · go_wp2
        go_round
        case rel => exact ⟨k + 1, by omega, by go_num, by rw [hs.out, if_pos heq]; go_num⟩
        case measure => simp [intOf]; omega
      · have heq' : (L[k].toList == s.toList) = false := by simpa using heq
        go_wp2
        go_round
        case rel => exact ⟨k + 1, by omega, by go_num, by rw [hs.out, if_neg heq]; go_num⟩
        case measure => simp [intOf]; omega
    · go_wp2
      go_ret
      have : L.take k = L := List.take_of_length_le (by omega)
      rw [this]
      exact ⟨rfl, rfl⟩

end Go.Proofs.Ytkejbpkpdgnodaa
