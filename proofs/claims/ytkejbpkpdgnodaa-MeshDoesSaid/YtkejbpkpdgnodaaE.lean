/- The contracts of Drop, Double, Move. -/
import Derived.Test.YtkejbpkpdgnodaaD
namespace Go.Proofs.Ytkejbpkpdgnodaa
open Go.RowKit

theorem two (w : World) (o1 o2 : Obj) : Only w ((w.alloc o1).alloc o2) (fun _ => False) ∧ ((w.alloc o1).alloc o2).heap[w.heap.size]? = some o1 ∧ ((w.alloc o1).alloc o2).heap[w.heap.size + 1]? = some o2 ∧
    ((w.alloc o1).alloc o2).heap.size = w.heap.size + 2 := by
  refine ⟨(Only.alloc _ _ _).trans (Only.alloc _ _ _), ?_, ?_, by simp⟩
  · rw [Below.heap_alloc _ _ _ (by simp), heap_alloc_new]
  · rw [show w.heap.size + 1 = (w.alloc o1).heap.size by simp, heap_alloc_new]

theorem four (w : World) (o1 o2 o3 o4 : Obj) : Only w ((((w.alloc o1).alloc o2).alloc o3).alloc o4) (fun _ => False) ∧ ((((w.alloc o1).alloc o2).alloc o3).alloc o4).heap[w.heap.size]? = some o1 ∧ ((((w.alloc o1).alloc o2).alloc o3).alloc o4).heap[w.heap.size + 1]? = some o2 ∧
    ((((w.alloc o1).alloc o2).alloc o3).alloc o4).heap[w.heap.size + 1 + 1]? = some o3 ∧ ((((w.alloc o1).alloc o2).alloc o3).alloc o4).heap[w.heap.size + 1 + 1 + 1]? = some o4 ∧ ((((w.alloc o1).alloc o2).alloc o3).alloc o4).heap.size = w.heap.size + 4 := by
  obtain ⟨h1, h2, h3, h4, h5⟩ := three w o1 o2 o3
  refine ⟨h1.trans (Only.alloc _ _ _), ?_, ?_, ?_, ?_, by simp⟩
  · rw [Below.heap_alloc _ _ _ (by omega), h2]
  · rw [Below.heap_alloc _ _ _ (by omega), h3]
  · rw [Below.heap_alloc _ _ _ (by omega), h4]
  · rw [show w.heap.size + 1 + 1 + 1 = (((w.alloc o1).alloc o2).alloc o3).heap.size by simp, heap_alloc_new]

theorem hmf : ∀ (fn : Fn) (first cap : Array Value) (w : World), (Instr.makeFunc fn first cap).run Try.prog w = .ok (.func fn first cap) w := fun _ _ _ _ => rfl

set_option maxHeartbeats 800000 in
theorem drop_clo (m bm bn : Nat) (room : Int) (n : Nat) (s : ByteArray) (L : List ByteArray) (w : World) (hm : IsMesh w m room L) (hn : n < L.length) (hL : L.length ≤ 64)
    (hbm : w.heap[bm]? = some (.cells #[.pointer (some ⟨m, 0, none⟩)] 24 (0, 0))) (hbn : w.heap[bn]? = some (.cells #[.int .i64 n] 3 (0, 0))) :
    Calls Try.prog 34 #[.string s, .pointer (some ⟨bm, 0, none⟩), .pointer (some ⟨bn, 0, none⟩)] w fun e w' => e = .returned (.tuple #[]) ∧
      (IsMesh w' m room (L.take n ++ L.drop (n + 1)) ∧ Only w w' (· = m)) := by
  have a3 := cell_of_one hbm
  have a4 := cell_of_one hbn
  go_enter Try.func34, Try.ntmps34
  go_wp2_with fail
  refine (cut_any m room n L _ hm hn hL).mono ?_
  rintro e w' ⟨rfl, k1, k2⟩
  go_wp2
  go_end0
  exact ⟨rfl, k1, Only.of_grown k2⟩

set_option maxHeartbeats 800000 in
theorem drop_any (m : Nat) (room : Int) (n : Int) (L : List ByteArray) (w : World) (hm : IsMesh w m room L) (hL : L.length ≤ 64) :
    Calls Try.prog 22 #[.pointer (some ⟨m, 0, none⟩), .int .i64 n] w fun e w' => e = .returned (.bool (there n L)) ∧
      IsMesh w' m room (takenL n L) ∧ Only w w' (· = m) := by
  have hmf := hmf
  have hml := hm.lt
  go_enter Try.func22, Try.ntmps22
  go_wp2_with fail
  obtain ⟨q1, q2, q3, q5⟩ := two w (Obj.cells #[Value.pointer (some { block := m, off := 0 })] 24) (Obj.cells #[Value.int IntKind.i64 n] 3)
  generalize ((w.alloc (Obj.cells #[Value.pointer (some { block := m, off := 0 })] 24)).alloc (Obj.cells #[Value.int IntKind.i64 n] 3)) = w1 at q1 q2 q3 q5
  have hm1 : IsMesh w1 m room L := q1.mesh hm (fun _ h => h.elim)
  by_cases hn : 0 ≤ n ∧ n < L.length
  · obtain ⟨hn0, hn1⟩ := hn
    obtain ⟨k, rfl⟩ := Int.eq_ofNat_of_zero_le hn0
    have hk : k < L.length := by omega
    have hclo := drop_clo m w.heap.size (w.heap.size + 1) room k L[k] L w1 hm1 hk hL q2 q3
    refine (at_hit m room k L w1 34 #[.pointer (some ⟨w.heap.size, 0, none⟩), .pointer (some ⟨w.heap.size + 1, 0, none⟩)] _ _ hm1 hk hL cf34 (by rfl) hclo).mono ?_
    rintro e w' ⟨rfl, k1, k3⟩
    go_wp2
    go_ret
    rw [takenL_yes hk, there_true hn0 hn1]
    exact ⟨rfl, k1, (q1.mono (fun _ h => h.elim)).trans k3⟩
  · refine (at_miss m room n L w1 _ hm1 (by omega) hL).mono ?_
    rintro e w' ⟨rfl, rfl⟩
    go_wp2
    go_ret
    rw [takenL_no hn, there_false hn]
    exact ⟨rfl, hm1, q1.mono (fun _ h => h.elim)⟩

theorem Only.mesh1 {w w' : World} {b m : Nat} {room : Int} {L : List ByteArray} {xs : Array Value} {t : TypeId} (h : Only w w' (· = b)) (hm : IsMesh w m room L) (hb : w.heap[b]? = some (.cells xs t (0, 0))) (h9 : t ≠ 9) (hne : b ≠ m) : IsMesh w' m room L :=
  h.mesh hm (fun k hk => ⟨by omega, fun cur e => by subst hk; rw [hb] at e; simp at e; exact h9 e.2⟩)

set_option maxHeartbeats 800000 in
theorem double_clo (m bm bs : Nat) (room : Int) (s : ByteArray) (x : Bool) (L : List ByteArray) (w : World) (hm : IsMesh w m room L) (hr : room ≤ 64)
    (hbm : w.heap[bm]? = some (.cells #[.pointer (some ⟨m, 0, none⟩)] 24 (0, 0))) (hbs : w.heap[bs]? = some (.cells #[.bool x] 4 (0, 0))) (hne : bs ≠ m) :
    Calls Try.prog 33 #[.string s, .pointer (some ⟨bm, 0, none⟩), .pointer (some ⟨bs, 0, none⟩)] w fun e w' => e = .returned (.tuple #[]) ∧
      (IsMesh w' m room (sentL room L s) ∧ w'.heap[bs]? = some (.cells #[.bool (sentB room L)] 4 (0, 0)) ∧ Only w w' (fun k => k = m ∨ k = bs)) := by
  have a3 := cell_of_one hbm
  have a4 := cell_of_one hbs
  go_enter Try.func33, Try.ntmps33
  go_wp2_with fail
  refine (send_any m room s L _ hm hr).mono ?_
  rintro e w' ⟨rfl, k1, k2⟩
  have k3 := k2.keep hbs hne
  have a5 := cell_of_one k3
  have a6 := free_of_one k3
  have k4 : Only w' (w'.setCell ⟨bs, 0, none⟩ (.bool (sentB room L))) (· = bs) := Only.setCell _ _ _ _ _ rfl
  have K4 := Lib.hid k4
  have K5 := Lib.hid (one_setCell (u := .bool (sentB room L)) k3)
  clear k4
  go_wp2
  go_end0
  exact ⟨rfl, K4.out.mesh1 k1 k3 (by decide) hne, K5.out, (k2.mono (fun _ h => .inl h)).trans (K4.out.mono (fun _ h => .inr h))⟩

/-- What Double leaves, and answers. -/
def doubledL (room : Int) (n : Int) (L : List ByteArray) : List ByteArray := if there n L then sentL room L (L[n.toNat]?.getD ByteArray.empty) else L
def doubledB (room : Int) (n : Int) (L : List ByteArray) : Bool := there n L && sentB room L
theorem doubledL_yes {room : Int} {k : Nat} {L : List ByteArray} (h : k < L.length) : doubledL room k L = sentL room L L[k] := by
  unfold doubledL; rw [if_pos (there_true (by omega) (by omega))]; simp [h]
theorem doubledB_yes {room : Int} {k : Nat} {L : List ByteArray} (h : k < L.length) : doubledB room k L = sentB room L := by
  unfold doubledB; rw [there_true (by omega) (by omega)]; rfl
theorem doubledL_no {room n : Int} {L : List ByteArray} (h : ¬ (0 ≤ n ∧ n < (L.length : Int))) : doubledL room n L = L := by unfold doubledL; rw [there_false h]; rfl
theorem doubledB_no {room n : Int} {L : List ByteArray} (h : ¬ (0 ≤ n ∧ n < (L.length : Int))) : doubledB room n L = false := by unfold doubledB; rw [there_false h]; rfl

set_option maxHeartbeats 800000 in
theorem double_any (m : Nat) (room : Int) (n : Int) (L : List ByteArray) (w : World) (hm : IsMesh w m room L) (hr : room ≤ 64) (hL : L.length ≤ 64) :
    Calls Try.prog 21 #[.pointer (some ⟨m, 0, none⟩), .int .i64 n] w fun e w' => e = .returned (.bool (doubledB room n L)) ∧
      IsMesh w' m room (doubledL room n L) ∧ Only w w' (· = m) := by
  have hmf := hmf
  have hml := hm.lt
  go_enter Try.func21, Try.ntmps21
  go_wp2_with fail
  obtain ⟨q1, q2, q3, q5⟩ := two w (Obj.cells #[Value.pointer (some { block := m, off := 0 })] 24) (Obj.cells #[Value.bool false] 4)
  generalize ((w.alloc (Obj.cells #[Value.pointer (some { block := m, off := 0 })] 24)).alloc (Obj.cells #[Value.bool false] 4)) = w1 at q1 q2 q3 q5
  have hm1 : IsMesh w1 m room L := q1.mesh hm (fun _ h => h.elim)
  by_cases hn : 0 ≤ n ∧ n < L.length
  · obtain ⟨hn0, hn1⟩ := hn
    obtain ⟨k, rfl⟩ := Int.eq_ofNat_of_zero_le hn0
    have hk : k < L.length := by omega
    have hclo := double_clo m w.heap.size (w.heap.size + 1) room L[k] false L w1 hm1 hr q2 q3 (by omega)
    refine (at_hit m room k L w1 33 #[.pointer (some ⟨w.heap.size, 0, none⟩), .pointer (some ⟨w.heap.size + 1, 0, none⟩)] _ _ hm1 hk hL cf33 (by rfl) hclo).mono ?_
    rintro e w' ⟨rfl, k1, k2, k3⟩
    have a1 := cell_of_one k2
    go_wp2
    go_ret
    rw [doubledL_yes hk, doubledB_yes hk]
    exact ⟨rfl, k1, (q1.mono (fun _ h => h.elim)).trans' k3 (fun i hi h => by omega)⟩
  · refine (at_miss m room n L w1 _ hm1 (by omega) hL).mono ?_
    rintro e w' ⟨rfl, rfl⟩
    have a1 := cell_of_one q3
    go_wp2
    go_ret
    rw [doubledL_no hn, doubledB_no hn]
    exact ⟨rfl, hm1, q1.mono (fun _ h => h.elim)⟩

end Go.Proofs.Ytkejbpkpdgnodaa
