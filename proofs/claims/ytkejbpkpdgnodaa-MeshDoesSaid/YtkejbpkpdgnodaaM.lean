/- The document's Take. -/
import Derived.Test.YtkejbpkpdgnodaaL
namespace Go.Proofs.Ytkejbpkpdgnodaa
open Go.RowKit

set_option maxHeartbeats 800000 in
theorem rthere_any (room : Int) (rv : Value) (n : Int) (L : List ByteArray) (w : World) (hr : Rw w rv L) (hL : L.length ≤ 100) :
    Calls Try.prog 35 #[.agg #[.int .i64 room, rv], .int .i64 n] w fun e w' => e = .returned (.bool (there n L)) ∧ Only w w' (fun _ => False) := by
  obtain ⟨sp, cap, rfl⟩ := own_shape hr
  have oA : Only w (w.alloc (.cells #[.int .i64 room, .slice sp L.length cap] 29)) (fun _ => False) := Only.alloc _ _ _
  have O := Lib.hid oA
  clear oA
  by_cases h : 0 ≤ n ∧ n < L.length
  · have HT := Lib.hid (there_true h.1 h.2)
    obtain ⟨h0, h1⟩ := h
    go_enter Try.func35, Try.ntmps35
    go_wp2
    go_ret
    exact ⟨by rw [HT.out]; rfl, O.out⟩
  · have HT := Lib.hid (there_false h)
    rcases (show n < 0 ∨ (L.length : Int) ≤ n by omega) with h1 | h1
    all_goals
      clear h
      try have hd : decide (n < (L.length : Int)) = false := decide_eq_false (by omega)
      go_enter Try.func35, Try.ntmps35
      go_wp2
      go_ret
      exact ⟨by rw [HT.out]; rfl, O.out⟩

/-- Behind the first append, onto a row that has just been made. -/
theorem app_first {w w1 w2 : World} {room : Int} {v z : Value} (b1 : Below w.heap.size w w1) (hbz : w.heap.size + 1 < w1.heap.size) (k2 : w1.heap[w.heap.size]? = some (.cells #[.int .i64 room, v] 29 (0, 0))) (k3 : w1.heap[w.heap.size + 1]? = some (.cells #[.int .i64 0, z] 29 (0, 0)))
    (hg : (w1.alloc (.cells #[] 9)).drew.grownBy w2 (some w1.heap.size)) :
    Below w.heap.size w w2 ∧ w2.heap[w.heap.size]? = some (.cells #[.int .i64 room, v] 29 (0, 0)) ∧ w2.heap[w.heap.size + 1]? = some (.cells #[.int .i64 0, z] 29 (0, 0)) ∧ w2.cell? ⟨w.heap.size, 1, none⟩ = some v := by
  have o : Only w1 w2 (fun i => i = w1.heap.size) := ((Only.alloc w1 (.cells #[] 9) _).drew).trans (Only.of_grown hg)
  have z2 := o.keep k2 (by omega)
  exact ⟨b1.trans (o.below (by omega) (fun i hi => by omega)), z2, o.keep k3 (by omega), (cells2 z2).2⟩
/-- Behind an append onto a row that is owned. -/
theorem app_next {w w2 w3 : World} {room : Int} {v z v1 v2 : Value} {n m : Nat} {xs ys : List Value} (b2 : Below w.heap.size w w2) (k2 : w2.heap[w.heap.size]? = some (.cells #[.int .i64 room, v] 29 (0, 0))) (k3 : w2.heap[w.heap.size + 1]? = some (.cells #[.int .i64 0, z] 29 (0, 0)))
    (h1 : w2.ownsRow w.heap.size 9 1 v1 n xs) (h2 : w3.ownsRow w.heap.size 9 1 v2 m ys) (hg : w2.grownBy w3 v1.ownBlock) :
    Below w.heap.size w w3 ∧ w3.heap[w.heap.size]? = some (.cells #[.int .i64 room, v] 29 (0, 0)) ∧ w3.heap[w.heap.size + 1]? = some (.cells #[.int .i64 0, z] 29 (0, 0)) ∧ w3.cell? ⟨w.heap.size, 1, none⟩ = some v ∧ w3.frozen? ⟨w.heap.size, 1, none⟩ = false ∧ ∃ sp cap, v2 = .slice sp m cap := by
  have z2 := (hg.block _ (lt_of_block k2) (Ne.symm (own_ne k2 h1 (by decide)))).trans k2
  have z3 := (hg.block _ (lt_of_block k3) (Ne.symm (own_ne k3 h1 (by decide)))).trans k3
  exact ⟨b2.grown hg b2.size (fun g hg => (h1.lt g hg).1), z2, z3, (cells2 z2).2, free_arr z2 1, own_shape h2⟩

/-- The row stored into its field. -/
theorem app_last {w w3 : World} {room : Int} {v z v2 : Value} {m : Nat} {ys : List Value} (k2 : w3.heap[w.heap.size]? = some (.cells #[.int .i64 room, v] 29 (0, 0))) (k3 : w3.heap[w.heap.size + 1]? = some (.cells #[.int .i64 0, z] 29 (0, 0)))
    (h2 : w3.ownsRow w.heap.size 9 1 v2 m ys) (b3 : Below w.heap.size w w3) :
    (w3.setCell ⟨w.heap.size, 1, none⟩ v2).heap[w.heap.size]? = some (.cells #[.int .i64 room, v2] 29 (0, 0)) ∧ (w3.setCell ⟨w.heap.size, 1, none⟩ v2).heap[w.heap.size + 1]? = some (.cells #[.int .i64 0, z] 29 (0, 0)) ∧
    (w3.setCell ⟨w.heap.size, 1, none⟩ v2).ownsRow w.heap.size 9 1 v2 m ys ∧ Below w.heap.size w (w3.setCell ⟨w.heap.size, 1, none⟩ v2) :=
  ⟨heap_set k2 1 v2, (Below.heap_setCell w3 ⟨w.heap.size, 1, none⟩ v2 (w.heap.size + 1) (by simp)).trans k3, (ownsRow_setCell_other h2 (own_ne k2 h2 (by decide)) v2), (b3.setCell (p := ⟨w.heap.size, 1, none⟩) (Nat.le_refl _) v2)⟩

def RTakeEnd (room : Int) (n : Int) (L : List ByteArray) (w : World) (e : Ending) (w' : World) : Prop :=
  ∃ rv, e = .returned (.tuple #[.agg #[.int .i64 room, rv], .string (takenS n L), .bool (there n L)]) ∧ Rw w' rv (takenL n L) ∧ Below w.heap.size w w'

set_option maxHeartbeats 1600000 in
theorem rtake_any (room : Int) (rv : Value) (n : Int) (L : List ByteArray) (w : World) (hr : Rw w rv L) (hL : L.length ≤ 100) :
    Calls Try.prog 24 #[.agg #[.int .i64 room, rv], .int .i64 n] w (RTakeEnd room n L w) := by
  obtain ⟨sp, cap, rfl⟩ := own_shape hr
  obtain ⟨q1, q2, q3, q4⟩ := two w (Obj.cells #[Value.int IntKind.i64 room, Value.slice sp L.length cap] 29) (Obj.cells #[Value.int IntKind.i64 0, Value.slice none 0 0] 29)
  obtain ⟨w0, hw0⟩ : ∃ w0, w0 = ((w.alloc (Obj.cells #[Value.int IntKind.i64 room, Value.slice sp L.length cap] 29)).alloc (Obj.cells #[Value.int IntKind.i64 0, Value.slice none 0 0] 29)) := ⟨_, rfl⟩
  rw [← hw0] at q1 q2 q3 q4
  have HW0 := Lib.hid hw0
  clear hw0
  have b0 : Below w.heap.size w w0 := q1.below (Nat.le_refl _) (fun _ h => h.elim)
  have ht := rthere_any room _ n L w0 (hr.below b0) hL
  by_cases h : 0 ≤ n ∧ n < L.length
  · obtain ⟨h0, h1⟩ := h
    obtain ⟨k, rfl⟩ := Int.eq_ofNat_of_zero_le h0
    have hk : k < L.length := by omega
    rw [there_true h0 h1] at ht
    have HT := Lib.hid ht
    have HE := Lib.hid (And.intro (there_true h0 h1) (And.intro (takenS_yes hk) (takenL_yes hk)))
    clear ht
    have x0 : w0.cell? ⟨w.heap.size, 0, none⟩ = _ := (cells2 q2).1
    have x1 : w0.cell? ⟨w.heap.size, 1, none⟩ = _ := (cells2 q2).2
    have Q4 := Lib.hid q4
    clear q4
    go_enter Try.func24, Try.ntmps24
    go_wp2_with fail
    rw [← HW0.out]
    refine HT.out.mono ?_
    rintro e w1 ⟨rfl, o1⟩
    have k2 := o1.keep q2 (fun h => h)
    have k3 := o1.keep q3 (fun h => h)
    have b1 := b0.trans (o1.below b0.size (fun _ h => h.elim))
    obtain ⟨g, rfl, hgl, hc⟩ := own_src hr (by omega)
    have hck : w1.cell? ⟨g, k, none⟩ = some (.string L[k]) := (b1.cell (p := ⟨g, k, none⟩) hgl).trans (hc k _ (by simp [hk]))
    have x1 : w1.cell? ⟨w.heap.size, 1, none⟩ = some (.slice (some ⟨g, 0, none⟩) L.length cap) := (cells2 k2).2
    clear hc x0 o1 q1 q2 q3
    have hbz : w.heap.size + 1 < w1.heap.size := by have := lt_of_block k3; omega
    have hown0 : (w1.alloc (.cells #[] 9)).ownsRow w.heap.size 9 1 (.slice (some ⟨w1.heap.size, 0, none⟩) 0 0) 0 [] := World.ownsRow_made w1 #[] 0 (by omega) (by unfold maxLen; omega) rfl
    have hbs0 : w.heap.size ≤ (w1.alloc (.cells #[] 9)).heap.size := by simp; omega
    have hsrc1 : Srcs (w1.alloc (.cells #[] 9)) (some ⟨g, 0, none⟩) k cap ((L.map Value.string).take k) := srcs_front hr (b1.alloc (by omega) (.cells #[] 9)) (by omega)
    have x2 : (w1.alloc (.cells #[] 9)).cell? ⟨w.heap.size, 1, none⟩ = some (.slice (some ⟨g, 0, none⟩) L.length cap) := by
      rw [World.cell?_alloc_past _ _ _ (by show w.heap.size < _; omega)]; exact x1
    have hcap := (own_cap hr).1
    have i0 : (0 : Int) ≤ (k : Int) := by omega
    have i1 : (k : Int) ≤ (cap : Int) := by omega
    have i2 : IntKind.i64.wrap ((k : Int) + 1) = (k : Int) + 1 := IntWalk.i64_in _ (by omega)
    have i3 : (0 : Int) ≤ (k : Int) + 1 := by omega
    have i4 : (k : Int) + 1 ≤ (L.length : Int) := by omega
    have i5 : ((k : Int) + 1).toNat = k + 1 := by omega
    have HR := Lib.hid hr
    go_upto_region 4 with fail
    go_cut [] (fun wx => ∃ sp2 m cap2, m = L.length - 1 ∧ wx.heap[w.heap.size]? = some (.cells #[.int .i64 room, .slice sp2 m cap2] 29 (0, 0)) ∧ wx.heap[w.heap.size + 1]? = some (.cells #[.int .i64 0, .slice none 0 0] 29 (0, 0)) ∧
      wx.ownsRow w.heap.size 9 1 (.slice sp2 m cap2) m ((L.take k ++ L.drop (k + 1)).map Value.string) ∧ Below w.heap.size w wx)
    case first =>
      clear hr
      go_region_law (first | (refine step_app w.heap.size rfl (.tmp 18) (.tmp 22) rfl (.slice (some ⟨w1.heap.size, 0, none⟩) 0 0) 0 [] _ _ _ ((L.map Value.string).take k) rfl rfl hown0.drew hbs0 hsrc1 (fun u hu => strs_one L u (List.mem_of_mem_take hu)) (by omega) ?_; intro v1 w2 hown1 hgrow1; obtain ⟨b2, z2, z3, y1⟩ := app_first b1 hbz k2 k3 hgrow1) | (refine step_app w.heap.size rfl (.tmp 23) (.tmp 28) rfl v1 _ _ _ _ _ ((L.map Value.string).drop (k + 1)) rfl rfl hown1 b2.size (srcs_end_at HR.out b2 (by omega)) (fun u hu => strs_one L u (List.mem_of_mem_drop hu)) (by omega) ?_; intro v2 w3 hown2 hgrow2; obtain ⟨b3, z4, z5, y2, f2, ⟨sp2, cap2, rfl⟩⟩ := app_next b2 z2 z3 hown1 hown2 hgrow2))
      all_goals
        have e1 : [] ++ (L.map Value.string).take k ++ (L.map Value.string).drop (k + 1) = (L.take k ++ L.drop (k + 1)).map Value.string := by simp [List.map_take, List.map_drop]
        rw [e1] at hown2
        simp only [Nat.zero_add] at hown2
        have H := Lib.hid (app_last z4 z5 hown2 b3)
        clear e1 hown2 hown1 hgrow1 hgrow2 z2 z3 z4 z5 y1 y2 f2 b3 b2
        generalize (if cap = k + 1 then (some (⟨g, 0, none⟩ : Addr)) else _) = qq
        go_wp2_with fail
        go_meet
        exact ⟨sp2, _, cap2, by omega, H.out.1, H.out.2.1, H.out.2.2.1, H.out.2.2.2⟩
    case rest =>
      obtain ⟨sp2, mm, cap2, hmm, g1, g2, g3, g4⟩ := hcut
      subst hmm
      obtain ⟨y0, y1⟩ := cells2 g1
      obtain ⟨y2, y3⟩ := cells2 g2
      have f2 := free_arr g2 0
      have f3 := free_arr g2 1
      have hrw : Rw wc (.slice sp2 (L.length - 1) cap2) (L.take k ++ L.drop (k + 1)) := by
        have e : (L.take k ++ L.drop (k + 1)).length = L.length - 1 := by simp; omega
        unfold Rw
        rw [e]
        exact own_base g3
      have p2 := hrw.set (j := 0) (u := .int .i64 room) g2 (by decide)
      have p3 := p2.set (j := 1) (u := .slice sp2 (L.length - 1) cap2) (heap_set g2 0 _) (by decide)
      have P3 := Lib.hid p3
      obtain ⟨e0, e1⟩ := cells2 (store2 (x := .int .i64 room) (y := .slice sp2 (L.length - 1) cap2) g2)
      clear p2 p3 hrw g3 x1 x2 hck hown0 hsrc1 k2 k3
      go_wp2
      refine bodyPost_ret (v := .tuple #[.agg #[.int .i64 room, .slice sp2 (L.length - 1) cap2], .string L[k], .bool true]) ?_ rfl ?_
      · simp [results, Try.results24, go_sem, e0, e1]
      · exact ⟨.slice sp2 (L.length - 1) cap2, by rw [HE.out.1, HE.out.2.1], by rw [HE.out.2.2]; exact P3.out, (g4.setCell (by show w.heap.size ≤ w.heap.size + 1; omega) _).setCell (by show w.heap.size ≤ w.heap.size + 1; omega) _⟩
  · have HE := Lib.hid (And.intro (there_false h) (And.intro (takenS_no h) (takenL_no h)))
    rw [there_false h] at ht
    have HT := Lib.hid ht
    clear ht h q4
    go_enter Try.func24, Try.ntmps24
    go_wp2_with fail
    rw [← HW0.out]
    refine HT.out.mono ?_
    rintro e w1 ⟨rfl, o1⟩
    have k2 := o1.keep q2 (fun h => h)
    have k3 := o1.keep q3 (fun h => h)
    have b1 := b0.trans (o1.below b0.size (fun _ h => h.elim))
    obtain ⟨y0, y1⟩ := cells2 k2
    obtain ⟨y2, y3⟩ := cells2 k3
    have f2 := free_arr k3 0
    have f3 := free_arr k3 1
    have p2 := (hr.below b1).set (j := 0) (u := .int .i64 room) k3 (by decide)
    have p3 := p2.set (j := 1) (u := .slice sp L.length cap) (heap_set k3 0 _) (by decide)
    have P3 := Lib.hid p3
    obtain ⟨e0, e1⟩ := cells2 (store2 (x := .int .i64 room) (y := .slice sp L.length cap) k3)
    clear p2 p3 q1 q2 q3 o1
    go_wp2
    refine bodyPost_ret (v := .tuple #[.agg #[.int .i64 room, .slice sp L.length cap], .string ⟨#[]⟩, .bool false]) ?_ rfl ?_
    · simp [results, Try.results24, go_sem, e0, e1]
    · exact ⟨.slice sp L.length cap, by rw [HE.out.1, HE.out.2.1]; rfl, by rw [HE.out.2.2]; exact P3.out, (b1.setCell (by show w.heap.size ≤ w.heap.size + 1; omega) _).setCell (by show w.heap.size ≤ w.heap.size + 1; omega) _⟩

end Go.Proofs.Ytkejbpkpdgnodaa
