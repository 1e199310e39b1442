/- The contract of Move. -/
import Derived.Test.YtkejbpkpdgnodaaE
namespace Go.Proofs.Ytkejbpkpdgnodaa
open Go.RowKit

/-- What a move from k to j leaves. -/
def movedAt (k j : Nat) (L : List ByteArray) : List ByteArray := (L.take k ++ L.drop (k + 1)).take j ++ L[k]?.getD ByteArray.empty :: (L.take k ++ L.drop (k + 1)).drop j

set_option maxHeartbeats 800000 in
theorem move_in (m bm bn bt bs : Nat) (room : Int) (k j : Nat) (s0 : ByteArray) (L : List ByteArray) (w : World) (hm : IsMesh w m room L) (hn : k < L.length) (hj : j < L.length) (hL : L.length ≤ 64)
    (hbm : w.heap[bm]? = some (.cells #[.pointer (some ⟨m, 0, none⟩)] 24 (0, 0))) (hbn : w.heap[bn]? = some (.cells #[.int .i64 k] 3 (0, 0))) (hbt : w.heap[bt]? = some (.cells #[.int .i64 j] 3 (0, 0))) (hbs : w.heap[bs]? = some (.cells #[.string L[k]] 9 (0, 0)))
    (h1 : bm ≠ m) (h2 : bt ≠ m) (h3 : bs ≠ m) :
    Calls Try.prog 30 #[.string s0, .pointer (some ⟨bm, 0, none⟩), .pointer (some ⟨bn, 0, none⟩), .pointer (some ⟨bt, 0, none⟩), .pointer (some ⟨bs, 0, none⟩)] w fun e w' => e = .returned (.tuple #[]) ∧
      (IsMesh w' m room (movedAt k j L) ∧ Only w w' (· = m)) := by
  have a3 := cell_of_one hbm
  have a4 := cell_of_one hbn
  go_enter Try.func30, Try.ntmps30
  go_wp2_with fail
  refine (cut_any m room k L _ hm hn hL).mono ?_
  rintro e w' ⟨rfl, k1, k2⟩
  have k3 := Only.of_grown k2
  have a5 := cell_of_one (k3.keep hbm h1)
  have a6 := cell_of_one (k3.keep hbt h2)
  have a7 := cell_of_one (k3.keep hbs h3)
  have hlen : (L.take k ++ L.drop (k + 1)).length = L.length - 1 := by simp; omega
  have Hlen := Lib.hid hlen
  clear hlen
  go_wp2_with fail
  refine (lay_any m room j L[k] (L.take k ++ L.drop (k + 1)) _ k1 (by rw [Hlen.out]; omega) (by rw [Hlen.out]; omega)).mono ?_
  rintro e w2 ⟨rfl, k4, k5⟩
  go_wp2
  go_end0
  refine ⟨rfl, ?_, k3.trans (Only.of_grown k5)⟩
  unfold movedAt
  simpa [hn] using k4

set_option maxHeartbeats 800000 in
theorem move_clo_yes (m bm bt bn bv : Nat) (room : Int) (k j : Nat) (x : Bool) (L : List ByteArray) (w : World) (hm : IsMesh w m room L) (hn : k < L.length) (hj : j < L.length) (hL : L.length ≤ 64)
    (hbm : w.heap[bm]? = some (.cells #[.pointer (some ⟨m, 0, none⟩)] 24 (0, 0))) (hbn : w.heap[bn]? = some (.cells #[.int .i64 k] 3 (0, 0))) (hbt : w.heap[bt]? = some (.cells #[.int .i64 j] 3 (0, 0))) (hbv : w.heap[bv]? = some (.cells #[.bool x] 4 (0, 0)))
    (h1 : bm ≠ m) (h2 : bt ≠ m) (h3 : bv ≠ m) :
    Calls Try.prog 29 #[.string L[k], .pointer (some ⟨bm, 0, none⟩), .pointer (some ⟨bt, 0, none⟩), .pointer (some ⟨bn, 0, none⟩), .pointer (some ⟨bv, 0, none⟩)] w fun e w' => e = .returned (.tuple #[]) ∧
      (IsMesh w' m room (movedAt k j L) ∧ w'.heap[bv]? = some (.cells #[.bool true] 4 (0, 0)) ∧ Only w w' (fun i => i = m ∨ i = bv)) := by
  have hmf := hmf
  have hO : Only w (w.alloc (.cells #[.string L[k]] 9)) (fun _ => False) := Only.alloc _ _ _
  have hml := hm.lt
  have lm := lt_of_block hbm
  have ln := lt_of_block hbn
  have lt := lt_of_block hbt
  have lv := lt_of_block hbv
  have hm1 : IsMesh (w.alloc (.cells #[.string L[k]] 9)) m room L := hO.mesh hm (fun _ h => h.elim)
  have b1 := hO.keep hbm (fun h => h)
  have b2 := hO.keep hbt (fun h => h)
  have b3 := hO.keep hbn (fun h => h)
  have b4 := hO.keep hbv (fun h => h)
  have b5 : (w.alloc (.cells #[.string L[k]] 9)).heap[w.heap.size]? = some (.cells #[.string L[k]] 9 (0, 0)) := heap_alloc_new _ _
  have hclo := move_in m bm bn bt w.heap.size room k j L[j] L _ hm1 hn hj hL b1 b3 b2 b5 h1 h2 (by omega)
  have HC := Lib.hid hclo
  clear hclo
  have a1 := cell_of_one b1
  have a2 := cell_of_one b2
  go_enter Try.func29, Try.ntmps29
  go_wp2_with fail
  refine (at_hit m room j L (w.alloc (.cells #[.string L[k]] 9)) 30 #[.pointer (some ⟨bm, 0, none⟩), .pointer (some ⟨bn, 0, none⟩), .pointer (some ⟨bt, 0, none⟩), .pointer (some ⟨w.heap.size, 0, none⟩)] _ _ hm1 hj hL cf30 (by rfl) HC.out).mono ?_
  rintro e w' ⟨rfl, k1, k2⟩
  have c4 := k2.keep b4 h3
  have a4 := cell_of_one c4
  have a5 := free_of_one c4
  have k4 : Only w' (w'.setCell ⟨bv, 0, none⟩ (.bool true)) (· = bv) := Only.setCell _ _ _ _ _ rfl
  have K4 := Lib.hid k4
  have K5 := Lib.hid (one_setCell (u := .bool true) c4)
  clear k4
  go_wp2
  go_end0
  exact ⟨rfl, K4.out.mesh1 k1 c4 (by decide) h3, K5.out, ((hO.mono (fun _ h => h.elim)).trans (k2.mono (fun _ h => .inl h))).trans (K4.out.mono (fun _ h => .inr h))⟩

set_option maxHeartbeats 800000 in
theorem move_clo_no (m bm bt bn bv : Nat) (room : Int) (j : Int) (s : ByteArray) (L : List ByteArray) (w : World) (hm : IsMesh w m room L) (hj : ¬ (0 ≤ j ∧ j < L.length)) (hL : L.length ≤ 64)
    (hbm : w.heap[bm]? = some (.cells #[.pointer (some ⟨m, 0, none⟩)] 24 (0, 0))) (hbt : w.heap[bt]? = some (.cells #[.int .i64 j] 3 (0, 0))) (hbv : w.heap[bv]? = some (.cells #[.bool false] 4 (0, 0)))
    (h3 : bv ≠ m) :
    Calls Try.prog 29 #[.string s, .pointer (some ⟨bm, 0, none⟩), .pointer (some ⟨bt, 0, none⟩), .pointer (some ⟨bn, 0, none⟩), .pointer (some ⟨bv, 0, none⟩)] w fun e w' => e = .returned (.tuple #[]) ∧
      (IsMesh w' m room L ∧ w'.heap[bv]? = some (.cells #[.bool false] 4 (0, 0)) ∧ Only w w' (fun i => i = m ∨ i = bv)) := by
  have hmf := hmf
  have hO : Only w (w.alloc (.cells #[.string s] 9)) (fun _ => False) := Only.alloc _ _ _
  have hm1 : IsMesh (w.alloc (.cells #[.string s] 9)) m room L := hO.mesh hm (fun _ h => h.elim)
  have b1 := hO.keep hbm (fun h => h)
  have b2 := hO.keep hbt (fun h => h)
  have b4 := hO.keep hbv (fun h => h)
  have a1 := cell_of_one b1
  have a2 := cell_of_one b2
  have a4 := cell_of_one b4
  have a5 := free_of_one b4
  go_enter Try.func29, Try.ntmps29
  go_wp2_with fail
  refine (at_miss m room j L (w.alloc (.cells #[.string s] 9)) _ hm1 (by omega) hL).mono ?_
  rintro e w' ⟨rfl, rfl⟩
  obtain ⟨w1, hw1⟩ : ∃ w1, w1 = w.alloc (.cells #[.string s] 9) := ⟨_, rfl⟩
  rw [← hw1] at hm1 b4 a4 a5 hO ⊢
  clear hw1 a1 a2 b1 b2
  have k4 : Only w1 (w1.setCell ⟨bv, 0, none⟩ (.bool false)) (· = bv) := Only.setCell _ _ _ _ _ rfl
  have K4 := Lib.hid k4
  have K5 := Lib.hid (one_setCell (u := .bool false) b4)
  clear k4
  go_wp2
  go_end0
  exact ⟨rfl, K4.out.mesh1 hm1 b4 (by decide) h3, K5.out, (hO.mono (fun _ h => h.elim)).trans (K4.out.mono (fun _ h => .inr h))⟩

/-- What Move leaves, and answers. -/
def movedL (n to : Int) (L : List ByteArray) : List ByteArray := if there n L && there to L then movedAt n.toNat to.toNat L else L
def movedB (n to : Int) (L : List ByteArray) : Bool := there n L && there to L
theorem movedL_yes {k j : Nat} {L : List ByteArray} (h : k < L.length) (h' : j < L.length) : movedL k j L = movedAt k j L := by
  unfold movedL; rw [there_true (by omega) (by omega), there_true (by omega) (by omega)]; rfl
theorem movedB_yes {k j : Nat} {L : List ByteArray} (h : k < L.length) (h' : j < L.length) : movedB k j L = true := by
  unfold movedB; rw [there_true (by omega) (by omega), there_true (by omega) (by omega)]; rfl
theorem movedL_no {n to : Int} {L : List ByteArray} (h : ¬ (0 ≤ n ∧ n < (L.length : Int))) : movedL n to L = L := by unfold movedL; rw [there_false h]; rfl
theorem movedB_no {n to : Int} {L : List ByteArray} (h : ¬ (0 ≤ n ∧ n < (L.length : Int))) : movedB n to L = false := by unfold movedB; rw [there_false h]; rfl
theorem movedL_no' {n to : Int} {L : List ByteArray} (h : ¬ (0 ≤ to ∧ to < (L.length : Int))) : movedL n to L = L := by unfold movedL; rw [there_false h, Bool.and_false]; rfl
theorem movedB_no' {n to : Int} {L : List ByteArray} (h : ¬ (0 ≤ to ∧ to < (L.length : Int))) : movedB n to L = false := by unfold movedB; rw [there_false h, Bool.and_false]

set_option maxHeartbeats 800000 in
theorem move_any (m : Nat) (room : Int) (n to : Int) (L : List ByteArray) (w : World) (hm : IsMesh w m room L) (hL : L.length ≤ 64) :
    Calls Try.prog 19 #[.pointer (some ⟨m, 0, none⟩), .int .i64 n, .int .i64 to] w fun e w' => e = .returned (.bool (movedB n to L)) ∧
      IsMesh w' m room (movedL n to L) ∧ Only w w' (· = m) := by
  have hmf := hmf
  have hml := hm.lt
  go_enter Try.func19, Try.ntmps19
  go_wp2_with fail
  obtain ⟨q1, q2, q3, q4, q5, q6⟩ := four w (Obj.cells #[Value.pointer (some { block := m, off := 0 })] 24) (Obj.cells #[Value.int IntKind.i64 n] 3) (Obj.cells #[Value.int IntKind.i64 to] 3) (Obj.cells #[Value.bool false] 4)
  generalize ((((w.alloc (Obj.cells #[Value.pointer (some { block := m, off := 0 })] 24)).alloc (Obj.cells #[Value.int IntKind.i64 n] 3)).alloc (Obj.cells #[Value.int IntKind.i64 to] 3)).alloc (Obj.cells #[Value.bool false] 4)) = w1 at q1 q2 q3 q4 q5 q6
  have hm1 : IsMesh w1 m room L := q1.mesh hm (fun _ h => h.elim)
  by_cases hn : 0 ≤ n ∧ n < L.length
  · obtain ⟨hn0, hn1⟩ := hn
    obtain ⟨k, rfl⟩ := Int.eq_ofNat_of_zero_le hn0
    have hk : k < L.length := by omega
    by_cases ht : 0 ≤ to ∧ to < L.length
    · obtain ⟨ht0, ht1⟩ := ht
      obtain ⟨j, rfl⟩ := Int.eq_ofNat_of_zero_le ht0
      have hj : j < L.length := by omega
      have hclo := move_clo_yes m w.heap.size (w.heap.size + 1 + 1) (w.heap.size + 1) (w.heap.size + 1 + 1 + 1) room k j false L w1 hm1 hk hj hL q2 q3 q4 q5 (by omega) (by omega) (by omega)
      refine (at_hit m room k L w1 29 #[.pointer (some ⟨w.heap.size, 0, none⟩), .pointer (some ⟨w.heap.size + 1 + 1, 0, none⟩), .pointer (some ⟨w.heap.size + 1, 0, none⟩), .pointer (some ⟨w.heap.size + 1 + 1 + 1, 0, none⟩)] _ _ hm1 hk hL cf29 (by rfl) hclo).mono ?_
      rintro e w' ⟨rfl, k1, k2, k3⟩
      have a1 := cell_of_one k2
      go_wp2
      go_ret
      rw [movedL_yes hk hj, movedB_yes hk hj]
      exact ⟨rfl, k1, (q1.mono (fun _ h => h.elim)).trans' k3 (fun i hi h => by omega)⟩
    · have hclo := move_clo_no m w.heap.size (w.heap.size + 1 + 1) (w.heap.size + 1) (w.heap.size + 1 + 1 + 1) room to L[k] L w1 hm1 ht hL q2 q4 q5 (by omega)
      have Ht := Lib.hid ht
      clear ht
      refine (at_hit m room k L w1 29 #[.pointer (some ⟨w.heap.size, 0, none⟩), .pointer (some ⟨w.heap.size + 1 + 1, 0, none⟩), .pointer (some ⟨w.heap.size + 1, 0, none⟩), .pointer (some ⟨w.heap.size + 1 + 1 + 1, 0, none⟩)] _ _ hm1 hk hL cf29 (by rfl) hclo).mono ?_
      rintro e w' ⟨rfl, k1, k2, k3⟩
      have a1 := cell_of_one k2
      go_wp2
      go_ret
      rw [movedL_no' Ht.out, movedB_no' Ht.out]
      exact ⟨rfl, k1, (q1.mono (fun _ h => h.elim)).trans' k3 (fun i hi h => by omega)⟩
  · refine (at_miss m room n L w1 _ hm1 (by omega) hL).mono ?_
    rintro e w' ⟨rfl, rfl⟩
    have a1 := cell_of_one q5
    go_wp2
    go_ret
    rw [movedL_no hn, movedB_no hn]
    exact ⟨rfl, hm1, q1.mono (fun _ h => h.elim)⟩

end Go.Proofs.Ytkejbpkpdgnodaa
