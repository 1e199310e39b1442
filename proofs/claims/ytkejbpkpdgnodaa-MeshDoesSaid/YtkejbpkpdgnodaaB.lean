/- The contract of cut. -/
import Derived.Test.YtkejbpkpdgnodaaA
namespace Go.Proofs.Ytkejbpkpdgnodaa
open Go.RowKit

theorem splice_cut {α : Type} (Z X Y : List α) {n : Nat} (hX : X.length = n) (hZ : Z.length = n + Y.length) : splice (splice Z 0 X) n Y = X ++ Y := by
  subst hX
  have e1 : splice Z 0 X = X ++ Z.drop X.length := by
    unfold splice
    rw [List.take_zero, List.nil_append, Nat.zero_add]
  rw [e1]
  unfold splice
  rw [List.take_append_of_le_length (Nat.le_refl _), List.take_length, List.drop_eq_nil_of_le (by simp; omega)]
  simp

set_option maxHeartbeats 800000 in
theorem cut_any (m : Nat) (room : Int) (n : Nat) (L : List ByteArray) (w : World) (hm : IsMesh w m room L) (hn : n < L.length) (hL : L.length ≤ 64) :
    Calls Try.prog 31 #[.pointer (some ⟨m, 0, none⟩), .int .i64 n] w fun e w' => e = .returned (.tuple #[]) ∧
      IsMesh w' m room (L.take n ++ L.drop (n + 1)) ∧ w.grownBy w' (some m) := by
  obtain ⟨i0, hi, hz0, hz1, hz2⟩ := info_parts info9
  obtain ⟨v, hb, ho⟩ := hm
  have hne := own_ne hb ho (by decide)
  have hlt := lt_of_block hb
  have c0 : w.cell? ⟨m, 0, none⟩ = some (.int .i64 room) := by simp [World.cell?, hb]
  have c1 : w.cell? ⟨m, 1, none⟩ = some v := by simp [World.cell?, hb]
  obtain ⟨sp, cap, rfl⟩ := own_shape ho
  have k0 : (1 : Int) ≤ (L.length : Int) := by omega
  go_enter Try.func31, Try.ntmps31
  go_wp2_with (at_make; refine wpList_make_full _ rfl _ _ 27 rfl 0 9 i0 (.string ByteArray.empty) 1 Try.underlying27 hi hz0 hz1 .i64 .i64 _ _ (L.length - 1) rfl rfl ?c1 ?c2 ?c3 ?c4 ?c5 ?_)
  case c1 => omega
  case c2 => omega
  case c3 => rw [hz2]; omega
  case c4 => unfold maxLen; omega
  case c5 => omega
  intro w1 hown hgrow
  have hb1 := (hgrow.block m hlt (by simp)).trans hb
  have hB1 : Below w.heap.size w w1 := (Below.refl _ w).grown hgrow (Nat.le_refl _) (fun k h => by cases h)
  have hcap := (own_cap ho).1
  have c0 : w1.cell? ⟨m, 0, none⟩ = some (.int .i64 room) := by simp [World.cell?, hb1]
  have c1 : w1.cell? ⟨m, 1, none⟩ = some (.slice sp L.length cap) := by simp [World.cell?, hb1]
  obtain ⟨Z, hzl, hg1⟩ := own_some hown
  clear hown hi hz0 hz1 hz2
  obtain ⟨X, hX⟩ : ∃ X, X = (L.take n).map Value.string := ⟨_, rfl⟩
  have HX := Lib.hid hX
  have hxl : X.length = n := by rw [hX]; simp; omega
  clear hX
  have HX1 := Lib.hid hxl
  clear hxl
  have HZ := Lib.hid hzl
  clear hzl
  go_wp2_with (with_reducible refine wpList_copy_splice rfl (.tmp 12) (.tmp 18) 27 27 rfl 9 Try.underlying27 size9 _ _ _ _ _ _ rfl rfl w.heap.size 0 Z 9 hg1 X ?d1 ?d2 ?d3 ?d4 w.heap.size w hB1 (Nat.le_refl _) ?_)
  case d1 => rw [HX1.out]; exact (Nat.min_eq_left (by omega)).symm
  case d2 =>
    intro h0
    obtain ⟨g, rfl, hgl, hc⟩ := own_src ho (by have := HX1.out; omega)
    refine ⟨_, rfl, fun j u hj => ?_⟩
    rw [Addr.add_lit, Nat.zero_add, hB1.cell (by exact hgl)]
    refine hc j u ?_
    rw [HX.out] at hj
    rw [List.getElem?_map] at hj ⊢
    rw [List.getElem?_take] at hj
    split at hj
    · exact hj
    · cases hj
  case d3 =>
    have e1 := HX1.out
    have e2 := HZ.out
    omega
  case d4 => rw [HX.out]; exact strs_one _
  intro w2 HG2 hB2
  have c0 : w2.cell? ⟨m, 0, none⟩ = some (.int .i64 room) := by simp [World.cell?, hB2.block m hlt, hb]
  have c1 : w2.cell? ⟨m, 1, none⟩ = some (.slice sp L.length cap) := by simp [World.cell?, hB2.block m hlt, hb]
  have hzl2 : (splice Z 0 X).length = L.length - 1 := by rw [length_splice _ _ _ (by rw [HX1.out, HZ.out]; omega), HZ.out]
  have HZ2 := Lib.hid hzl2
  clear hzl2
  go_wp2_with fail
  obtain ⟨Y, hY⟩ : ∃ Y, Y = (L.drop (n + 1)).map Value.string := ⟨_, rfl⟩
  have hyl : Y.length = L.length - (n + 1) := by rw [hY]; simp
  have HY := Lib.hid hY
  have HY1 := Lib.hid hyl
  clear hY hyl
  have k1 : (0 : Int) ≤ (n : Int) + 1 := by omega
  have k2 : (n : Int) ≤ (L.length : Int) - 1 := by omega
  have k3 : IntKind.i64.wrap ((n : Int) + 1) = (n : Int) + 1 := IntWalk.i64_in _ (by omega)
  have k4 : ((n : Int) + 1).toNat = n + 1 := by omega
  have k5 : (n : Int) + 1 ≤ (L.length : Int) := by omega
  have k6 : (n : Int) ≤ ((L.length - 1 : Nat) : Int) := by omega
  have hsrc : 0 < Y.length → (if L.length - 1 = n then some (⟨w.heap.size, 0, none⟩ : Addr) else some ⟨w.heap.size, n, none⟩) = some ⟨w.heap.size, n, none⟩ ∧
      ∃ ad, (if cap = n + 1 then sp else Option.map (fun x => x.add (n + 1)) sp) = some ad ∧ ∀ (j : Nat) (v : Value), Y[j]? = some v → w2.drew.cell? (ad.add j) = some v := by
    intro h0
    have e := HY1.out
    obtain ⟨ad, h1, h2, h3⟩ := own_from ho (n := n + 1) (by omega)
    refine ⟨if_neg (by omega), ad, h1, fun j v hv => ?_⟩
    rw [hB2.drew.cell (by rw [add_block]; exact h2)]
    refine h3 j v ?_
    rw [HY.out, List.map_drop] at hv
    exact hv
  have Hsrc := Lib.hid hsrc
  clear hsrc
  go_region_law (refine step_copy_splice rfl (.tmp 22) (.tmp 29) 27 27 rfl 9 Try.underlying27 size9 _ _ _ _ _ _ rfl rfl w.heap.size n _ 9 HG2.out Y (by have e := HY1.out; show _ = min _ _; omega) (by exact Hsrc.out) (by have e := HY1.out; have e2 := HZ2.out; simp; omega) (by rw [HY.out]; exact strs_one _) w.heap.size w hB2.drew (Nat.le_refl _) ?_; intro w4 HG4 hB4)
  generalize (if L.length - 1 = n then (some (⟨w.heap.size, 0, none⟩ : Addr)) else _) = q1
  generalize (if cap = n + 1 then sp else _) = q2
  have hb4 := (hB4.block m hlt).trans hb
  have c0 : w4.cell? ⟨m, 0, none⟩ = some (.int .i64 room) := by simp [World.cell?, hb4]
  have c1 : w4.cell? ⟨m, 1, none⟩ = some (.slice sp L.length cap) := by simp [World.cell?, hb4]
  have f1 := free_arr hb4 1
  go_wp2
  go_end0
  refine ⟨rfl, ⟨.slice (some ⟨w.heap.size, 0, none⟩) (L.length - 1) (L.length - 1), ?_, ?_⟩, ?_⟩
  · exact heap_set hb4 1 _
  · have e : (L.take n ++ L.drop (n + 1)).length = L.length - 1 := by simp; omega
    rw [e]
    refine ownsRow_setCell_other (all_own ?_ (by simp; omega) (by unfold maxLen; omega)) (by simp [Value.ownBlock]; omega) _
    rw [HG4.out, splice_cut Z X Y HX1.out (by have e1 := HZ.out; have e2 := HY1.out; omega), HX.out, HY.out]
    simp
  · refine ⟨hB4.os, hB4.tape, hB4.output, by simpa [World.setCell] using hB4.size, fun k hk hne => ?_⟩
    rw [Below.heap_setCell _ _ _ _ (fun e => hne (by rw [e]))]
    exact hB4.block k hk

end Go.Proofs.Ytkejbpkpdgnodaa
