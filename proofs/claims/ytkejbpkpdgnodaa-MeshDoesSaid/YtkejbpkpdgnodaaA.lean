/- The mesh in memory: what a mesh is, and the contract of lay. -/
import Derived.Test.YtkejbpkpdgnodaaProg
import Derived.WalkKit
import Derived.WalkSpells
import Derived.WalkLawsBesides
import Derived.Laws.CopyOwn
import Derived.StillTailTactics
import Derived.KernelRfl
import Derived.Lib.Hide
namespace Go.Proofs.Ytkejbpkpdgnodaa
open Go.RowKit

theorem info9 : (Try.prog.info? 9).map (fun i => (i.zero, i.size, i.bytes)) = some (some (.string ByteArray.empty), 1, 16) := by kernel_rfl

theorem size9 : (Try.prog.info? 9).map (·.size) = some 1 := by kernel_rfl

/-- A mesh at block m. -/
def IsMesh (w : World) (m : Nat) (room : Int) (L : List ByteArray) : Prop :=
  ∃ v, w.heap[m]? = some (.cells #[.int .i64 room, v] 50 (0, 0)) ∧ w.ownsRow 0 9 1 v L.length (L.map Value.string)

theorem own_ne {w : World} {m : Nat} {xs : Array Value} {t e : TypeId} {base size n : Nat} {v : Value} {ys : List Value} (h : w.heap[m]? = some (.cells xs t (0, 0))) (ho : w.ownsRow base e size v n ys) (ht : t ≠ e) : v.ownBlock ≠ some m := by
  rcases ho.2 with ⟨rfl, _⟩ | ⟨g, cap, cur, rfl, _, hg, _⟩
  · simp [Value.ownBlock]
  · intro e0
    simp only [Value.ownBlock, Option.some.injEq] at e0
    subst e0
    rw [hg] at h
    simp at h
    exact ht h.2.symm


theorem own_all {w : World} {g n : Nat} {e : TypeId} {xs : List Value} (h : w.ownsRow 0 e 1 (.slice (some ⟨g, 0, none⟩) n n) n xs) : w.heap[g]? = some (.cells xs.toArray e (0, 0)) := by
  rcases h.2 with ⟨h, _⟩ | ⟨g', cap, cur, hv, _, hg, _, _, hs, ht⟩
  · cases h
  · simp only [Value.slice.injEq, Option.some.injEq, Addr.mk.injEq] at hv
    obtain ⟨⟨rfl, _⟩, _, rfl⟩ := hv
    rw [hg, ← ht, List.take_of_length_le (by simp; omega)]

theorem own_some {w : World} {g n : Nat} {e : TypeId} {xs : List Value} (h : w.ownsRow 0 e 1 (.slice (some ⟨g, 0, none⟩) n n) n xs) : ∃ Z : List Value, Z.length = n ∧ w.heap[g]? = some (.cells Z.toArray e (0, 0)) :=
  ⟨xs, by have := h.1; omega, own_all h⟩

theorem all_own {w : World} {g n : Nat} {e : TypeId} {xs : List Value} (h : w.heap[g]? = some (.cells xs.toArray e (0, 0))) (hn : xs.length = n) (hm : n ≤ maxLen) : w.ownsRow 0 e 1 (.slice (some ⟨g, 0, none⟩) n n) n xs :=
  ⟨by omega, .inr ⟨g, n, xs.toArray, rfl, Nat.zero_le _, h, Nat.le_refl _, hm, by simp [hn], by simp [List.take_of_length_le, hn]⟩⟩

theorem cell_arr {w : World} {g : Nat} {xs : List Value} {e : TypeId} (h : w.heap[g]? = some (.cells xs.toArray e (0, 0))) (j : Nat) : w.cell? ⟨g, j, none⟩ = xs[j]? := by
  simp [World.cell?, h]
theorem free_arr {w : World} {g : Nat} {xs : Array Value} {e : TypeId} (h : w.heap[g]? = some (.cells xs e (0, 0))) (j : Nat) : w.frozen? ⟨g, j, none⟩ = false := by
  simp [World.frozen?, h]

theorem heap_set {w : World} {g : Nat} {xs : Array Value} {e : TypeId} {f : Nat × Nat} (h : w.heap[g]? = some (.cells xs e f)) (j : Nat) (u : Value) : (w.setCell ⟨g, j, none⟩ u).heap[g]? = some (.cells (xs.setIfInBounds j u) e f) := by
  have hlt := lt_of_block h
  have h' : w.heap[g] = .cells xs e f := by simpa [Array.getElem?_eq_getElem hlt] using h
  show (w.heap.modify g _)[g]? = _
  rw [Array.getElem?_eq_getElem (by simpa using hlt), Array.getElem_modify_self, h']
  rfl

theorem splice_lay {α : Type} (Z X Y : List α) (x : α) {n len : Nat} (hX : X.length = n) (hY : Y.length = len - n) (hn : n ≤ len) (hZ : Z.length = len + 1) : splice ((splice Z 0 X).set n x) (n + 1) Y = X ++ x :: Y := by
  subst hX
  have e1 : (splice Z 0 X).set X.length x = X ++ x :: Z.drop (X.length + 1) := by
    unfold splice
    rw [List.take_zero, List.nil_append, List.set_append_right _ _ (Nat.le_refl _), Nat.sub_self, Nat.zero_add]
    rw [List.drop_eq_getElem_cons (by omega : X.length < Z.length)]
    rfl
  rw [e1]
  unfold splice
  rw [List.take_append, List.take_of_length_le (by omega)]
  have e2 : X.length + 1 - X.length = 1 := by omega
  rw [e2, List.take_succ_cons, List.take_zero, List.drop_eq_nil_of_le (by simp; omega)]
  simp

theorem own_shape {w : World} {base e size n : Nat} {v : Value} {xs : List Value} (h : w.ownsRow base e size v n xs) : ∃ sp cap, v = .slice sp n cap := by
  rcases h.2 with ⟨rfl, h0⟩ | ⟨g, cap, cur, rfl, _⟩
  · exact ⟨none, 0, by rw [h0]⟩
  · exact ⟨_, _, rfl⟩

theorem own_cap {w : World} {base e size n cap : Nat} {sp : Option Addr} {xs : List Value} (h : w.ownsRow base e size (.slice sp n cap) n xs) : n ≤ cap ∧ cap ≤ maxLen := by
  rcases h.2 with ⟨h0, h1⟩ | ⟨g, cap', cur, hv, _, _, h1, h2, _⟩
  · exact ⟨by omega, by simp at h0; omega⟩
  · simp only [Value.slice.injEq] at hv
    obtain ⟨_, _, rfl⟩ := hv
    exact ⟨h1, h2⟩

theorem own_src {w : World} {base e n cap : Nat} {sp : Option Addr} {xs : List Value} (h : w.ownsRow base e 1 (.slice sp n cap) n xs) (hn : 0 < n) : ∃ g, sp = some ⟨g, 0, none⟩ ∧ g < w.heap.size ∧ ∀ j u, xs[j]? = some u → w.cell? ⟨g, j, none⟩ = some u := by
  have h' := h
  rcases h.2 with ⟨h0, h1⟩ | ⟨g, cap', cur, hv, _, hg, _, _, _, ht⟩
  · omega
  · simp only [Value.slice.injEq] at hv
    obtain ⟨rfl, _, rfl⟩ := hv
    refine ⟨g, rfl, lt_of_block hg, fun j u hu => ?_⟩
    have := h'.cells (g := g) rfl j u hu
    rw [Addr.add_lit, Nat.zero_add] at this
    exact this

theorem add_block (a : Addr) (j : Nat) : (a.add j).block = a.block := by unfold Addr.add; split <;> rfl

theorem own_from {w : World} {base e len cap n : Nat} {sp : Option Addr} {xs : List Value} (h : w.ownsRow base e 1 (.slice sp len cap) len xs) (hn : n < len) :
    ∃ ad, (if cap = n then sp else Option.map (fun x => x.add n) sp) = some ad ∧ ad.block < w.heap.size ∧ ∀ j u, (xs.drop n)[j]? = some u → w.cell? (ad.add j) = some u := by
  obtain ⟨g, rfl, hgl, hc⟩ := own_src h (by omega)
  have hcap := (own_cap h).1
  refine ⟨⟨g, n, none⟩, ?_, hgl, fun j u hj => ?_⟩
  · rw [if_neg (by omega)]
    simp [Addr.add_lit]
  · rw [Addr.add_lit]
    exact hc _ _ (by rw [← List.getElem?_drop]; exact hj)

theorem own_below {w w' : World} {base e size n : Nat} {v : Value} {xs : List Value} (h : w.ownsRow base e size v n xs) (hb : Below w.heap.size w w') : w'.ownsRow base e size v n xs := by
  refine ⟨h.1, ?_⟩
  rcases h.2 with hn | ⟨g, cap, cur, rfl, hbg, hgg, rest⟩
  · exact .inl hn
  · exact .inr ⟨g, cap, cur, rfl, hbg, (hb.block g (lt_of_block hgg)).trans hgg, rest⟩

theorem strs_one (l : List ByteArray) : ∀ v ∈ l.map Value.string, v.oneCell' = true := by
  intro v hv
  obtain ⟨x, _, rfl⟩ := List.mem_map.1 hv
  rfl

set_option maxHeartbeats 800000 in
theorem lay_any (m : Nat) (room : Int) (n : Nat) (s : ByteArray) (L : List ByteArray) (w : World) (hm : IsMesh w m room L) (hn : n ≤ L.length) (hL : L.length ≤ 64) :
    Calls Try.prog 27 #[.pointer (some ⟨m, 0, none⟩), .int .i64 n, .string s] w fun e w' => e = .returned (.tuple #[]) ∧
      IsMesh w' m room (L.take n ++ s :: L.drop n) ∧ w.grownBy w' (some m) := by
  obtain ⟨i0, hi, hz0, hz1, hz2⟩ := info_parts info9
  obtain ⟨v, hb, ho⟩ := hm
  have hne := own_ne hb ho (by decide)
  have hlt := lt_of_block hb
  have c0 : w.cell? ⟨m, 0, none⟩ = some (.int .i64 room) := by simp [World.cell?, hb]
  have c1 : w.cell? ⟨m, 1, none⟩ = some v := by simp [World.cell?, hb]
  obtain ⟨sp, cap, rfl⟩ := own_shape ho
  go_enter Try.func27, Try.ntmps27
  go_wp2_with (at_make; refine wpList_make_full _ rfl _ _ 27 rfl 0 9 i0 (.string ByteArray.empty) 1 Try.underlying27 hi hz0 hz1 .i64 .i64 _ _ (L.length + 1) rfl rfl ?c1 ?c2 ?c3 ?c4 ?c5 ?_)
  case c1 => omega
  case c2 => omega
  case c3 => rw [hz2]; omega
  case c4 => unfold maxLen; omega
  case c5 => omega
  intro w1 hown hgrow
  have hb1 := (hgrow.block m hlt (by simp)).trans hb
  have hB1 : Below w.heap.size w w1 := (Below.refl _ w).grown hgrow (Nat.le_refl _) (fun k h => by cases h)
  have hcap := (own_cap ho).1
  have c0 : w1.cell? ⟨m, 0, none⟩ = some (.int .i64 room) := by simp [World.cell?, hb1]
  have c1 : w1.cell? ⟨m, 1, none⟩ = some (.slice sp L.length cap) := by simp [World.cell?, hb1]
  obtain ⟨Z, hzl, hg1⟩ := own_some hown
  clear hown hi hz0 hz1 hz2
  obtain ⟨X, hX⟩ : ∃ X, X = (L.take n).map Value.string := ⟨_, rfl⟩
  have HX := Lib.hid hX
  have hxl : X.length = n := by rw [hX]; simp [hn]
  clear hX
  have HX1 := Lib.hid hxl
  clear hxl
  have HZ := Lib.hid hzl
  clear hzl
  go_wp2_with (with_reducible refine wpList_copy_splice rfl (.tmp 14) (.tmp 20) 27 27 rfl 9 Try.underlying27 size9 _ _ _ _ _ _ rfl rfl w.heap.size 0 Z 9 hg1 X ?d1 ?d2 ?d3 ?d4 w.heap.size w hB1 (Nat.le_refl _) ?_)
  case d1 => rw [HX1.out]; exact (Nat.min_eq_left (by omega)).symm
  case d2 =>
    intro h0
    obtain ⟨g, rfl, hgl, hc⟩ := own_src ho (by have := HX1.out; omega)
    refine ⟨_, rfl, fun j u hj => ?_⟩
    rw [Addr.add_lit, Nat.zero_add, hB1.cell (by exact hgl)]
    refine hc j u ?_
    rw [HX.out] at hj
    rw [List.getElem?_map] at hj ⊢
    rw [List.getElem?_take] at hj
    split at hj
    · exact hj
    · cases hj
  case d3 =>
    have e1 := HX1.out
    have e2 := HZ.out
    omega
  case d4 => rw [HX.out]; exact strs_one _
  intro w2 HG2 hB2
  have c0 : w2.cell? ⟨m, 0, none⟩ = some (.int .i64 room) := by simp [World.cell?, hB2.block m hlt, hb]
  have c1 : w2.cell? ⟨m, 1, none⟩ = some (.slice sp L.length cap) := by simp [World.cell?, hB2.block m hlt, hb]
  have hzl2 : (splice Z 0 X).length = L.length + 1 := by rw [length_splice _ _ _ (by rw [HX1.out, HZ.out]; omega), HZ.out]
  obtain ⟨x, hc2⟩ : ∃ x, w2.cell? ⟨w.heap.size, n, none⟩ = some x := by
    rw [cell_arr HG2.out]; exact ⟨_, List.getElem?_eq_getElem (by omega)⟩
  have hf2 := free_arr HG2.out n
  have HZ2 := Lib.hid hzl2
  clear hzl2
  go_wp2_with fail
  obtain ⟨Z2, hZ2⟩ : ∃ Z2, Z2 = splice Z 0 X := ⟨_, rfl⟩
  rw [← hZ2] at HG2 HZ2
  have HS := Lib.hid hZ2
  clear hZ2
  obtain ⟨Y, hY⟩ : ∃ Y, Y = (L.drop n).map Value.string := ⟨_, rfl⟩
  have hyl : Y.length = L.length - n := by rw [hY]; simp
  have HY := Lib.hid hY
  have HY1 := Lib.hid hyl
  clear hY hyl
  obtain ⟨w3, hw3⟩ : ∃ w3, w3 = w2.setCell ⟨w.heap.size, n, none⟩ (.string s) := ⟨_, rfl⟩
  have hg3 : w3.heap[w.heap.size]? = some (.cells (Z2.set n (.string s)).toArray 9 (0, 0)) := by
    rw [hw3, heap_set HG2.out]
    simp
  have hB3 : Below w.heap.size w w3 := by rw [hw3]; exact hB2.setCell (Nat.le_refl _) _
  rw [← hw3]
  clear hw3
  have c0 : w3.cell? ⟨m, 0, none⟩ = some (.int .i64 room) := by simp [World.cell?, hB3.block m hlt, hb]
  have c1 : w3.cell? ⟨m, 1, none⟩ = some (.slice sp L.length cap) := by simp [World.cell?, hB3.block m hlt, hb]
  have k1 : (0 : Int) ≤ (n : Int) + 1 := by omega
  have k2 : (n : Int) + 1 ≤ (L.length : Int) + 1 := by omega
  have k3 : IntKind.i64.wrap ((n : Int) + 1) = (n : Int) + 1 := IntWalk.i64_in _ (by omega)
  have k4 : ((n : Int) + 1).toNat = n + 1 := by omega
  have k5 : (n : Int) ≤ (L.length : Int) := by omega
  have hsrc : 0 < Y.length → (if L.length = n then some (⟨w.heap.size, 0, none⟩ : Addr) else some ⟨w.heap.size, n + 1, none⟩) = some ⟨w.heap.size, n + 1, none⟩ ∧
      ∃ ad, (if cap = n then sp else Option.map (fun x => x.add n) sp) = some ad ∧ ∀ (j : Nat) (v : Value), Y[j]? = some v → w3.drew.cell? (ad.add j) = some v := by
    intro h0
    have e := HY1.out
    obtain ⟨ad, h1, h2, h3⟩ := own_from ho (n := n) (by omega)
    refine ⟨if_neg (by omega), ad, h1, fun j v hv => ?_⟩
    rw [hB3.drew.cell (by rw [add_block]; exact h2)]
    refine h3 j v ?_
    rw [HY.out, List.map_drop] at hv
    exact hv
  have Hsrc := Lib.hid hsrc
  clear hsrc
  go_region_law (refine step_copy_splice rfl (.tmp 29) (.tmp 35) 27 27 rfl 9 Try.underlying27 size9 _ _ _ _ _ _ rfl rfl w.heap.size (n + 1) _ 9 hg3 Y (by have e := HY1.out; show _ = min _ _; omega) (by exact Hsrc.out) (by have e := HY1.out; have e2 := HZ2.out; simp; omega) (by rw [HY.out]; exact strs_one _) w.heap.size w hB3.drew (Nat.le_refl _) ?_; intro w4 HG4 hB4)
  generalize (if L.length = n then (some (⟨w.heap.size, 0, none⟩ : Addr)) else _) = q1
  generalize (if cap = n then sp else _) = q2
  have hb4 := (hB4.block m hlt).trans hb
  have c0 : w4.cell? ⟨m, 0, none⟩ = some (.int .i64 room) := by simp [World.cell?, hb4]
  have c1 : w4.cell? ⟨m, 1, none⟩ = some (.slice sp L.length cap) := by simp [World.cell?, hb4]
  have f1 := free_arr hb4 1
  go_wp2
  go_end0
  refine ⟨rfl, ⟨.slice (some ⟨w.heap.size, 0, none⟩) (L.length + 1) (L.length + 1), ?_, ?_⟩, ?_⟩
  · exact heap_set hb4 1 _
  · have e : (L.take n ++ s :: L.drop n).length = L.length + 1 := by simp; omega
    rw [e]
    refine ownsRow_setCell_other (all_own ?_ (by simp; omega) (by unfold maxLen; omega)) (by simp [Value.ownBlock]; omega) _
    rw [HG4.out, HS.out, splice_lay Z X Y (.string s) HX1.out HY1.out hn HZ.out, HX.out, HY.out]
    simp
  · refine ⟨hB4.os, hB4.tape, hB4.output, by simpa [World.setCell] using hB4.size, fun k hk hne => ?_⟩
    rw [Below.heap_setCell _ _ _ _ (fun e => hne (by rw [e]))]
    exact hB4.block k hk

end Go.Proofs.Ytkejbpkpdgnodaa
