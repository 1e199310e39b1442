/- by: one move of the document. -/
import Derived.Test.YtkejbpkpdgnodaaO
import Derived.Test.YtkejbpkpdgnodaaT
namespace Go.Proofs.Ytkejbpkpdgnodaa
open Go.RowKit

def ByEnd (room : Int) (a : MAct) (L : List ByteArray) (w : World) (e : Ending) (w' : World) : Prop :=
  ∃ rv, e = .returned (.tuple #[.agg #[.int .i64 room, rv], .string (doS a L), .bool (doB room a L)]) ∧ Rw w' rv (doL room a L) ∧ Below w.heap.size w w'

theorem byd_last {w w1 : World} {base b n1 cap1 : Nat} {sp1 : Option Addr} {room : Int} {L1 : List ByteArray} (k : w1.heap[b]? = some (.cells #[.int .i64 0, .slice none 0 0] 29 (0, 0))) (hb : base ≤ b) (r1 : Rw w1 (.slice sp1 n1 cap1) L1) (b2 : Below base w w1) :
    (((w1.setCell ⟨b, 0, none⟩ (.int .i64 room)).setCell ⟨b, 1, none⟩ (.slice sp1 n1 cap1)).cell? ⟨b, 0, none⟩ = some (.int .i64 room) ∧ ((w1.setCell ⟨b, 0, none⟩ (.int .i64 room)).setCell ⟨b, 1, none⟩ (.slice sp1 n1 cap1)).cell? ⟨b, 1, none⟩ = some (.slice sp1 n1 cap1)) ∧
    Rw ((w1.setCell ⟨b, 0, none⟩ (.int .i64 room)).setCell ⟨b, 1, none⟩ (.slice sp1 n1 cap1)) (.slice sp1 n1 cap1) L1 ∧ Below base w ((w1.setCell ⟨b, 0, none⟩ (.int .i64 room)).setCell ⟨b, 1, none⟩ (.slice sp1 n1 cap1)) := by
  have p2 := r1.set (j := 0) (u := .int .i64 room) k (by decide)
  have p3 := p2.set (j := 1) (u := .slice sp1 n1 cap1) (heap_set k 0 _) (by decide)
  exact ⟨cells2 (store2 k), p3, (b2.setCell hb _).setCell hb _⟩

set_option maxHeartbeats 1600000 in
theorem by_any (room : Int) (rv : Value) (a : MAct) (L : List ByteArray) (w : World) (hr : Rw w rv L) (hL : L.length ≤ 100) :
    Calls Try.prog 13 #[.agg #[.int .i64 room, rv], .agg #[.int .i64 a.k, .string a.s, .int .i64 a.n, .int .i64 a.to]] w (ByEnd room a L w) := by
  obtain ⟨ak, av, an, ato⟩ := a
  obtain ⟨sp, cap, rfl⟩ := own_shape hr
  obtain ⟨q1, q2, q3, q4, q5⟩ := three w (.cells #[.int .i64 room, .slice sp L.length cap] 29) (.cells #[.int .i64 ak, .string av, .int .i64 an, .int .i64 ato] 34) (.cells #[.int .i64 0, .slice none 0 0] 29)
  obtain ⟨w0, hw0⟩ : ∃ w0, w0 = (((w.alloc (.cells #[.int .i64 room, .slice sp L.length cap] 29)).alloc (.cells #[.int .i64 ak, .string av, .int .i64 an, .int .i64 ato] 34)).alloc (.cells #[.int .i64 0, .slice none 0 0] 29)) := ⟨_, rfl⟩
  rw [← hw0] at q1 q2 q3 q4 q5
  have HW0 := Lib.hid hw0
  clear hw0
  have b0 : Below w.heap.size w w0 := q1.below (Nat.le_refl _) (fun _ h => h.elim)
  by_cases h0 : ak = 0
  · subst h0
    have HE := Lib.hid (do_at0 (room := room) (a := ⟨0, av, an, ato⟩) (L := L) rfl)
    have HS := Lib.hid (rsend_any room _ L av w0 (hr.below b0) hL)
    go_enter Try.func13, Try.ntmps13
    go_wp2_with fail
    rw [← HW0.out]
    refine HS.out.mono ?_
    rintro e w1 ⟨rv1, rfl, r1, b1⟩
    have k4 := (b1.block (w.heap.size + 1 + 1) (lt_of_block q4)).trans q4
    have b2 := b0.trans (b1.mono b0.size)
    obtain ⟨sp1, cap1, rfl⟩ := own_shape r1
    obtain ⟨n1, hn1⟩ : ∃ n1, n1 = (sentL room L av).length := ⟨_, rfl⟩
    rw [← hn1] at r1
    have k5 := alloc_keep (.cells #[.int .i64 room, .slice sp1 n1 cap1] 29) k4
    have r5 : Rw (w1.alloc (.cells #[.int .i64 room, .slice sp1 n1 cap1] 29)) (.slice sp1 n1 cap1) (sentL room L av) := r1.below ((Below.refl _ _).alloc (Nat.le_refl _) _)
    have H := Lib.hid (byd_last (room := room) k5 (by omega) r5 (b2.alloc b2.size _))
    have f2 := free_arr k5 0
    have f3 := free_arr k5 1
    obtain ⟨y2, y3⟩ := cells2 k5
    rw [← hn1]
    clear q1 q2 q3 hn1 q5
    go_wp2
    obtain ⟨⟨e0, e1⟩, hR, hB⟩ := H.out
    refine bodyPost_ret (v := .tuple #[.agg #[.int .i64 room, .slice sp1 n1 cap1], .string ByteArray.empty, .bool (sentB room L)]) ?_ rfl ?_
    · simp [results, Try.results13, go_sem, e0, e1]; rfl
    · exact ⟨.slice sp1 n1 cap1, by rw [HE.out.2.1, HE.out.2.2], by rw [HE.out.1]; exact hR, hB⟩
  have t0 : (ak == 0) = false := by simpa using h0
  by_cases h1 : ak = 1
  · subst h1
    have HE := Lib.hid (do_at1 (room := room) (a := ⟨1, av, an, ato⟩) (L := L) rfl)
    have HS := Lib.hid (rtake_any room _ an L w0 (hr.below b0) hL)
    go_enter Try.func13, Try.ntmps13
    go_wp2_with fail
    rw [← HW0.out]
    refine HS.out.mono ?_
    rintro e w1 ⟨rv1, rfl, r1, b1⟩
    have k4 := (b1.block (w.heap.size + 1 + 1) (lt_of_block q4)).trans q4
    have b2 := b0.trans (b1.mono b0.size)
    obtain ⟨sp1, cap1, rfl⟩ := own_shape r1
    obtain ⟨n1, hn1⟩ : ∃ n1, n1 = (takenL an L).length := ⟨_, rfl⟩
    rw [← hn1] at r1
    have k5 := k4
    have H := Lib.hid (byd_last (room := room) k5 (by omega) r1 b2)
    have f2 := free_arr k5 0
    have f3 := free_arr k5 1
    obtain ⟨y2, y3⟩ := cells2 k5
    rw [← hn1]
    clear q1 q2 q3 hn1 q5
    go_wp2
    obtain ⟨⟨e0, e1⟩, hR, hB⟩ := H.out
    refine bodyPost_ret (v := .tuple #[.agg #[.int .i64 room, .slice sp1 n1 cap1], .string (takenS an L), .bool (there an L)]) ?_ rfl ?_
    · simp [results, Try.results13, go_sem, e0, e1]
    · exact ⟨.slice sp1 n1 cap1, by rw [HE.out.2.1, HE.out.2.2], by rw [HE.out.1]; exact hR, hB⟩
  have t1 : (ak == 1) = false := by simpa using h1
  by_cases h2 : ak = 2
  · subst h2
    have HE := Lib.hid (do_at2 (room := room) (a := ⟨2, av, an, ato⟩) (L := L) rfl)
    have HS := Lib.hid (rtake_any room _ an L w0 (hr.below b0) hL)
    go_enter Try.func13, Try.ntmps13
    go_wp2_with fail
    rw [← HW0.out]
    refine HS.out.mono ?_
    rintro e w1 ⟨rv1, rfl, r1, b1⟩
    have k4 := (b1.block (w.heap.size + 1 + 1) (lt_of_block q4)).trans q4
    have b2 := b0.trans (b1.mono b0.size)
    obtain ⟨sp1, cap1, rfl⟩ := own_shape r1
    obtain ⟨n1, hn1⟩ : ∃ n1, n1 = (takenL an L).length := ⟨_, rfl⟩
    rw [← hn1] at r1
    have k5 := alloc_keep (.cells #[.int .i64 room, .slice sp1 n1 cap1] 29) k4
    have r5 : Rw (w1.alloc (.cells #[.int .i64 room, .slice sp1 n1 cap1] 29)) (.slice sp1 n1 cap1) (takenL an L) := r1.below ((Below.refl _ _).alloc (Nat.le_refl _) _)
    have H := Lib.hid (byd_last (room := room) k5 (by omega) r5 (b2.alloc b2.size _))
    have f2 := free_arr k5 0
    have f3 := free_arr k5 1
    obtain ⟨y2, y3⟩ := cells2 k5
    rw [← hn1]
    clear q1 q2 q3 hn1 q5
    go_wp2
    obtain ⟨⟨e0, e1⟩, hR, hB⟩ := H.out
    refine bodyPost_ret (v := .tuple #[.agg #[.int .i64 room, .slice sp1 n1 cap1], .string ByteArray.empty, .bool (there an L)]) ?_ rfl ?_
    · simp [results, Try.results13, go_sem, e0, e1]; rfl
    · exact ⟨.slice sp1 n1 cap1, by rw [HE.out.2.1, HE.out.2.2], by rw [HE.out.1]; exact hR, hB⟩
  have t2 : (ak == 2) = false := by simpa using h2
  by_cases h3 : ak = 3
  · subst h3
    have HE := Lib.hid (do_at3 (room := room) (a := ⟨3, av, an, ato⟩) (L := L) rfl)
    have HS := Lib.hid (rdouble_any room _ an L w0 (hr.below b0) hL)
    go_enter Try.func13, Try.ntmps13
    go_wp2_with fail
    rw [← HW0.out]
    refine HS.out.mono ?_
    rintro e w1 ⟨rv1, rfl, r1, b1⟩
    have k4 := (b1.block (w.heap.size + 1 + 1) (lt_of_block q4)).trans q4
    have b2 := b0.trans (b1.mono b0.size)
    obtain ⟨sp1, cap1, rfl⟩ := own_shape r1
    obtain ⟨n1, hn1⟩ : ∃ n1, n1 = (doubledL room an L).length := ⟨_, rfl⟩
    rw [← hn1] at r1
    have k5 := alloc_keep (.cells #[.int .i64 room, .slice sp1 n1 cap1] 29) k4
    have r5 : Rw (w1.alloc (.cells #[.int .i64 room, .slice sp1 n1 cap1] 29)) (.slice sp1 n1 cap1) (doubledL room an L) := r1.below ((Below.refl _ _).alloc (Nat.le_refl _) _)
    have H := Lib.hid (byd_last (room := room) k5 (by omega) r5 (b2.alloc b2.size _))
    have f2 := free_arr k5 0
    have f3 := free_arr k5 1
    obtain ⟨y2, y3⟩ := cells2 k5
    rw [← hn1]
    clear q1 q2 q3 hn1 q5
    go_wp2
    obtain ⟨⟨e0, e1⟩, hR, hB⟩ := H.out
    refine bodyPost_ret (v := .tuple #[.agg #[.int .i64 room, .slice sp1 n1 cap1], .string ByteArray.empty, .bool (doubledB room an L)]) ?_ rfl ?_
    · simp [results, Try.results13, go_sem, e0, e1]; rfl
    · exact ⟨.slice sp1 n1 cap1, by rw [HE.out.2.1, HE.out.2.2], by rw [HE.out.1]; exact hR, hB⟩
  have t3 : (ak == 3) = false := by simpa using h3
  have HE := Lib.hid (@do_at4 room ⟨ak, av, an, ato⟩ L h0 h1 h2 h3)
  have HS := Lib.hid (rmove_any room _ an ato L w0 (hr.below b0) hL)
  go_enter Try.func13, Try.ntmps13
  go_wp2_with fail
  rw [← HW0.out]
  refine HS.out.mono ?_
  rintro e w1 ⟨rv1, rfl, r1, b1⟩
  have k4 := (b1.block (w.heap.size + 1 + 1) (lt_of_block q4)).trans q4
  have b2 := b0.trans (b1.mono b0.size)
  obtain ⟨sp1, cap1, rfl⟩ := own_shape r1
  obtain ⟨n1, hn1⟩ : ∃ n1, n1 = (movedL an ato L).length := ⟨_, rfl⟩
  rw [← hn1] at r1
  have k5 := alloc_keep (.cells #[.int .i64 room, .slice sp1 n1 cap1] 29) k4
  have r5 : Rw (w1.alloc (.cells #[.int .i64 room, .slice sp1 n1 cap1] 29)) (.slice sp1 n1 cap1) (movedL an ato L) := r1.below ((Below.refl _ _).alloc (Nat.le_refl _) _)
  have H := Lib.hid (byd_last (room := room) k5 (by omega) r5 (b2.alloc b2.size _))
  have f2 := free_arr k5 0
  have f3 := free_arr k5 1
  obtain ⟨y2, y3⟩ := cells2 k5
  rw [← hn1]
  clear q1 q2 q3 hn1 q5
  go_wp2
  obtain ⟨⟨e0, e1⟩, hR, hB⟩ := H.out
  refine bodyPost_ret (v := .tuple #[.agg #[.int .i64 room, .slice sp1 n1 cap1], .string ByteArray.empty, .bool (movedB an ato L)]) ?_ rfl ?_
  · simp [results, Try.results13, go_sem, e0, e1]; rfl
  · exact ⟨.slice sp1 n1 cap1, by rw [HE.out.2.1, HE.out.2.2], by rw [HE.out.1]; exact hR, hB⟩

end Go.Proofs.Ytkejbpkpdgnodaa
