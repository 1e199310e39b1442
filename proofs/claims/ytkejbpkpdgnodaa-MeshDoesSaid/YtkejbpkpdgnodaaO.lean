/- The document's New, Double and Count. -/
import Derived.Test.YtkejbpkpdgnodaaN
import Derived.StillTailTactics
import Derived.Deep.RegionWith
namespace Go.Proofs.Ytkejbpkpdgnodaa
open Go.RowKit

def RNewEnd (room : Int) (w : World) (e : Ending) (w' : World) : Prop :=
  e = .returned (.agg #[.int .i64 (min (max room 1) 64), .slice none 0 0]) ∧ Below w.heap.size w w'

theorem rw_nil (w : World) : Rw w (.slice none 0 0) [] := ⟨rfl, .inl ⟨rfl, rfl⟩⟩

theorem rnew_any (room : Int) (w : World) : Calls Try.prog 11 #[.int .i64 room] w (RNewEnd room w) := by
  go_enter Try.func11, Try.ntmps11
  have k := heap_alloc_new w (Obj.cells #[Value.int IntKind.i64 0, Value.slice none 0 0] 29)
  have f0 := free_arr k 0
  have f1 := free_arr k 1
  have B := Lib.hid (fun (x : Int) => (Below.refl w.heap.size w).alloc (Nat.le_refl _) (Obj.cells #[Value.int IntKind.i64 x, Value.slice none 0 0] 29))
  have HE := Lib.hid (fun (x : Int) => cells2 (heap_alloc_new w (Obj.cells #[Value.int IntKind.i64 x, Value.slice none 0 0] 29)))
  go_wp2
  · refine bodyPost_ret (v := .agg #[.int .i64 1, .slice none 0 0]) ?_ rfl ⟨?_, B.out 1⟩
    · have e := HE.out 1
      simp [results, Try.results11, go_sem, e.1, e.2]
    · rw [show min (max room 1) 64 = 1 by omega]
  · refine bodyPost_ret (v := .agg #[.int .i64 64, .slice none 0 0]) ?_ rfl ⟨?_, B.out 64⟩
    · have e := HE.out 64
      simp [results, Try.results11, go_sem, e.1, e.2]
    · rw [show min (max room 1) 64 = 64 by omega]
  · refine bodyPost_ret (v := .agg #[.int .i64 room, .slice none 0 0]) ?_ rfl ⟨?_, B.out room⟩
    · have e := HE.out room
      simp [results, Try.results11, go_sem, e.1, e.2]
    · rw [show min (max room 1) 64 = room by omega]

def RDblEnd (room : Int) (n : Int) (L : List ByteArray) (w : World) (e : Ending) (w' : World) : Prop :=
  ∃ rv, e = .returned (.tuple #[.agg #[.int .i64 room, rv], .bool (doubledB room n L)]) ∧ Rw w' rv (doubledL room n L) ∧ Below w.heap.size w w'

set_option maxHeartbeats 1600000 in
theorem rdouble_no (room : Int) (rv : Value) (n : Int) (L : List ByteArray) (w : World) (hr : Rw w rv L) (hL : L.length ≤ 100) (h : ¬ (0 ≤ n ∧ n < (L.length : Int))) :
    Calls Try.prog 25 #[.agg #[.int .i64 room, rv], .int .i64 n] w (RDblEnd room n L w) := by
  obtain ⟨sp, cap, rfl⟩ := own_shape hr
  obtain ⟨q1, q2, q3, q4⟩ := two w (Obj.cells #[Value.int IntKind.i64 room, Value.slice sp L.length cap] 29) (Obj.cells #[Value.int IntKind.i64 0, Value.slice none 0 0] 29)
  obtain ⟨w0, hw0⟩ : ∃ w0, w0 = ((w.alloc (Obj.cells #[Value.int IntKind.i64 room, Value.slice sp L.length cap] 29)).alloc (Obj.cells #[Value.int IntKind.i64 0, Value.slice none 0 0] 29)) := ⟨_, rfl⟩
  rw [← hw0] at q1 q2 q3 q4
  have HW0 := Lib.hid hw0
  clear hw0
  have b0 : Below w.heap.size w w0 := q1.below (Nat.le_refl _) (fun _ h => h.elim)
  have ht := rthere_any room _ n L w0 (hr.below b0) hL
  have HE := Lib.hid (And.intro (@doubledB_no room n L h) (@doubledL_no room n L h))
  rw [there_false h] at ht
  have HT := Lib.hid ht
  clear ht h q4
  go_enter Try.func25, Try.ntmps25
  go_wp2_with fail
  rw [← HW0.out]
  refine HT.out.mono ?_
  rintro e w1 ⟨rfl, o1⟩
  have k2 := o1.keep q2 (fun h => h)
  have k3 := o1.keep q3 (fun h => h)
  have b1 := b0.trans (o1.below b0.size (fun _ h => h.elim))
  obtain ⟨y0, y1⟩ := cells2 k2
  obtain ⟨y2, y3⟩ := cells2 k3
  have f2 := free_arr k3 0
  have f3 := free_arr k3 1
  have p2 := (hr.below b1).set (j := 0) (u := .int .i64 room) k3 (by decide)
  have p3 := p2.set (j := 1) (u := .slice sp L.length cap) (heap_set k3 0 _) (by decide)
  have P3 := Lib.hid p3
  obtain ⟨e0, e1⟩ := cells2 (store2 (x := .int .i64 room) (y := .slice sp L.length cap) k3)
  clear p2 p3 q1 q2 q3 o1
  go_wp2
  refine bodyPost_ret (v := .tuple #[.agg #[.int .i64 room, .slice sp L.length cap], .bool false]) ?_ rfl ?_
  · simp [results, Try.results25, go_sem, e0, e1]
  · exact ⟨.slice sp L.length cap, by rw [HE.out.1], by rw [HE.out.2]; exact P3.out, (b1.setCell (by show w.heap.size ≤ w.heap.size + 1; omega) _).setCell (by show w.heap.size ≤ w.heap.size + 1; omega) _⟩

set_option maxHeartbeats 1600000 in
theorem rdouble_yes (room : Int) (rv : Value) (k : Nat) (L : List ByteArray) (w : World) (hr : Rw w rv L) (hL : L.length ≤ 100) (hk : k < L.length) :
    Calls Try.prog 25 #[.agg #[.int .i64 room, rv], .int .i64 k] w (RDblEnd room k L w) := by
  obtain ⟨sp, cap, rfl⟩ := own_shape hr
  obtain ⟨q1, q2, q3, q4⟩ := two w (Obj.cells #[Value.int IntKind.i64 room, Value.slice sp L.length cap] 29) (Obj.cells #[Value.int IntKind.i64 0, Value.slice none 0 0] 29)
  obtain ⟨w0, hw0⟩ : ∃ w0, w0 = ((w.alloc (Obj.cells #[Value.int IntKind.i64 room, Value.slice sp L.length cap] 29)).alloc (Obj.cells #[Value.int IntKind.i64 0, Value.slice none 0 0] 29)) := ⟨_, rfl⟩
  rw [← hw0] at q1 q2 q3 q4
  have HW0 := Lib.hid hw0
  clear hw0
  have b0 : Below w.heap.size w w0 := q1.below (Nat.le_refl _) (fun _ h => h.elim)
  have ht := rthere_any room _ k L w0 (hr.below b0) hL
  have HE := Lib.hid (And.intro (@doubledB_yes room k L hk) (@doubledL_yes room k L hk))
  rw [there_true (n := (k : Int)) (L := L) (by omega) (by omega)] at ht
  have HT := Lib.hid ht
  clear ht q4
  go_enter Try.func25, Try.ntmps25
  go_wp2_with fail
  rw [← HW0.out]
  refine HT.out.mono ?_
  rintro e w1 ⟨rfl, o1⟩
  have k2 := o1.keep q2 (fun h => h)
  have k3 := o1.keep q3 (fun h => h)
  have b1 := b0.trans (o1.below b0.size (fun _ h => h.elim))
  obtain ⟨g, rfl, hgl, hc⟩ := own_src hr (by omega)
  have hck : w1.cell? ⟨g, k, none⟩ = some (.string L[k]) := (b1.cell (p := ⟨g, k, none⟩) hgl).trans (hc k _ (by simp [hk]))
  obtain ⟨y0, y1⟩ := cells2 k2
  have HS := Lib.hid (rsend_any room _ L L[k] w1.drew ((hr.below b1).drew) hL)
  clear hc o1 q1 q2 q3
  have i0 : (0 : Int) ≤ (k : Int) := by omega
  have i1 : (k : Int) < (L.length : Int) := by omega
  go_upto_region 3 with fail
  go_region_with (go_at_call 23; refine HS.out.mono ?_; rintro e w2 ⟨rv2, rfl, r2, b2⟩; have K2 := (b2.block w.heap.size (lt_of_block k2)).trans k2; have K3 := (b2.block (w.heap.size + 1) (lt_of_block k3)).trans k3; have f2 := free_arr K3 0; have f3 := free_arr K3 1; obtain ⟨y2, y3⟩ := cells2 K3; obtain ⟨sp2, cap2, rfl⟩ := own_shape r2)
  all_goals
    have p2 := r2.set (j := 0) (u := .int .i64 room) K3 (by decide)
    have p3 := p2.set (j := 1) (u := .slice sp2 (sentL room L L[k]).length cap2) (heap_set K3 0 _) (by decide)
    have B3 := Lib.hid (And.intro p3 ((((b1.drew.trans (b2.mono b1.size)).setCell (p := ⟨w.heap.size + 1, 0, none⟩) (by show w.heap.size ≤ w.heap.size + 1; omega) (.int .i64 room)).setCell (p := ⟨w.heap.size + 1, 1, none⟩) (by show w.heap.size ≤ w.heap.size + 1; omega) (.slice sp2 (sentL room L L[k]).length cap2))))
    obtain ⟨e0, e1⟩ := cells2 (store2 (x := .int .i64 room) (y := .slice sp2 (sentL room L L[k]).length cap2) K3)
    clear p2 p3 r2 K2 k2 y2 y3 f2 f3
    go_wp2
    refine bodyPost_ret (v := .tuple #[.agg #[.int .i64 room, .slice sp2 (sentL room L L[k]).length cap2], .bool (sentB room L)]) ?_ rfl ?_
    · simp [results, Try.results25, go_sem, e0, e1]
    · exact ⟨.slice sp2 (sentL room L L[k]).length cap2, by rw [HE.out.1], by rw [HE.out.2]; exact B3.out.1, B3.out.2⟩

theorem rdouble_any (room : Int) (rv : Value) (n : Int) (L : List ByteArray) (w : World) (hr : Rw w rv L) (hL : L.length ≤ 100) :
    Calls Try.prog 25 #[.agg #[.int .i64 room, rv], .int .i64 n] w (RDblEnd room n L w) := by
  by_cases h : 0 ≤ n ∧ n < (L.length : Int)
  · obtain ⟨x, rfl⟩ := Int.eq_ofNat_of_zero_le h.1
    exact rdouble_yes room rv x L w hr hL (by omega)
  · exact rdouble_no room rv n L w hr hL h

/-- The document's Count. -/
theorem rcount_any (rv : Value) (s : ByteArray) (L : List ByteArray) (w : World) (hr : Rw w rv L) (hL : L.length ≤ 100) :
    Calls Try.prog 17 #[rv, .string s] w fun e w' => e = .returned (.int .i64 (cnt s L)) ∧ w = w' := by
  obtain ⟨sp, cap, rfl⟩ := own_shape hr
  have hsrc : 0 < L.length → ∃ g, sp = some ⟨g, 0, none⟩ ∧ g < w.heap.size ∧ ∀ j u, (L.map Value.string)[j]? = some u → w.cell? ⟨g, j, none⟩ = some u := own_src hr
  have Hsrc := Lib.hid hsrc
  clear hsrc hr
  go_enter Try.func17, Try.ntmps17
  go_wp2
  go_loop [5, 6, 12] (fun c i _ => ∃ k : Nat, k ≤ L.length ∧ i = .int .i64 k ∧ c = .int .i64 (cnt s (L.take k))) (fun _ i _ => L.length - (intOf i).toNat)
  case atStart => exact ⟨0, Nat.zero_le _, rfl, rfl⟩
  case round =>
    obtain ⟨k, hk, rfl, rfl⟩ := hrel
    by_cases hlk : k < L.length
    · obtain ⟨g, rfl, hgl, hc⟩ := Hsrc.out (by omega)
      have hck : w.cell? ⟨g, k, none⟩ = some (.string L[k]) := hc k _ (by simp [hlk])
      have hs := Lib.hid (cnt_succ s L hlk)
      have hle : cnt s (L.take k) ≤ k := Nat.le_trans (cnt_le _ _) (List.length_take_le _ _)
      by_cases heq : (L[k].toList == s.toList) = true
      · go_wp2
        go_round
        case rel => exact ⟨k + 1, by omega, by go_num, by rw [hs.out, if_pos heq]; go_num⟩
        case measure => simp [intOf]; omega
      · have heq' : (L[k].toList == s.toList) = false := by simpa using heq
        go_wp2
        go_round
        case rel => exact ⟨k + 1, by omega, by go_num, by rw [hs.out, if_neg heq]; go_num⟩
        case measure => simp [intOf]; omega
    · go_wp2
      go_ret
      have : L.take k = L := List.take_of_length_le (by omega)
      rw [this]
      exact ⟨rfl, rfl⟩

end Go.Proofs.Ytkejbpkpdgnodaa
