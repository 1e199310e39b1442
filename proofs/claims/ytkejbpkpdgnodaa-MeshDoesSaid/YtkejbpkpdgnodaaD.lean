/- The contracts of New, Send, Take, Drop, Double, Move. -/
import Derived.Test.YtkejbpkpdgnodaaC
import Derived.Deep.QuietTactic
import Derived.BigQuiet
namespace Go.Proofs.Ytkejbpkpdgnodaa
open Go.RowKit

/-- Only blocks in S, and new ones, have turned. -/
structure Only (w w' : World) (S : Nat → Prop) : Prop where
  os : w'.os = w.os
  tape : w'.tape = w.tape
  output : w'.output = w.output
  size : w.heap.size ≤ w'.heap.size
  block : ∀ k, k < w.heap.size → ¬ S k → w'.heap[k]? = w.heap[k]?

theorem Only.refl (w : World) (S : Nat → Prop) : Only w w S := ⟨rfl, rfl, rfl, Nat.le_refl _, fun _ _ _ => rfl⟩
theorem Only.trans {a b c : World} {S : Nat → Prop} (h : Only a b S) (k : Only b c S) : Only a c S :=
  ⟨k.os.trans h.os, k.tape.trans h.tape, k.output.trans h.output, Nat.le_trans h.size k.size, fun i hi hs => (k.block i (Nat.lt_of_lt_of_le hi h.size) hs).trans (h.block i hi hs)⟩
/-- What a step turns besides S are blocks that are new. -/
theorem Only.trans' {a b c : World} {S T : Nat → Prop} (h : Only a b S) (k : Only b c T) (hT : ∀ i, i < a.heap.size → T i → S i) : Only a c S :=
  ⟨k.os.trans h.os, k.tape.trans h.tape, k.output.trans h.output, Nat.le_trans h.size k.size, fun i hi hs => (k.block i (Nat.lt_of_lt_of_le hi h.size) (fun ht => hs (hT i hi ht))).trans (h.block i hi hs)⟩
theorem Only.mono {a b : World} {S T : Nat → Prop} (h : Only a b S) (hS : ∀ i, S i → T i) : Only a b T :=
  ⟨h.os, h.tape, h.output, h.size, fun i hi ht => h.block i hi (fun hs => ht (hS i hs))⟩
theorem Only.alloc (w : World) (o : Obj) (S : Nat → Prop) : Only w (w.alloc o) S := ⟨rfl, rfl, rfl, by simp, fun k hk _ => Below.heap_alloc _ _ _ hk⟩
theorem Only.setCell (w : World) (b j : Nat) (u : Value) (S : Nat → Prop) (hS : S b) : Only w (w.setCell ⟨b, j, none⟩ u) S :=
  ⟨rfl, rfl, rfl, by simp [World.setCell], fun k hk hs => Below.heap_setCell _ _ _ _ (fun e => hs (e ▸ hS))⟩
theorem Only.drew {a b : World} {S : Nat → Prop} (h : Only a b S) : Only a b.drew S := ⟨h.os, h.tape, h.output, h.size, h.block⟩
theorem Only.of_grown {w w' : World} {m : Nat} (h : w.grownBy w' (some m)) : Only w w' (· = m) := ⟨h.os, h.tape, h.output, h.size, fun k hk hs => h.block k hk (fun e => hs (Option.some.inj e))⟩
theorem Only.of_grown0 {w w' : World} {S : Nat → Prop} (h : w.grownBy w' none) : Only w w' S := ⟨h.os, h.tape, h.output, h.size, fun k hk _ => h.block k hk (fun e => by cases e)⟩
theorem Only.of_below {w w' : World} (S : Nat → Prop) (h : Below w.heap.size w w') : Only w w' S := ⟨h.os, h.tape, h.output, h.size, fun k hk _ => h.block k hk⟩
theorem Only.below {w w' : World} {S : Nat → Prop} {B : Nat} (h : Only w w' S) (hB : B ≤ w.heap.size) (hS : ∀ i, S i → B ≤ i) : Below B w w' := ⟨h.os, h.tape, h.output, h.size, fun k hk => h.block k (by omega) (fun hs => by have := hS k hs; omega)⟩
theorem Only.keep {w w' : World} {S : Nat → Prop} {k : Nat} {o : Obj} (h : Only w w' S) (hk : w.heap[k]? = some o) (hs : ¬ S k) : w'.heap[k]? = some o := (h.block k (lt_of_block hk) hs).trans hk
theorem Only.own {w w' : World} {S : Nat → Prop} {base e size n : Nat} {v : Value} {xs : List Value} (h : Only w w' S) (ho : w.ownsRow base e size v n xs) (hs : ∀ g, v.ownBlock = some g → ¬ S g) : w'.ownsRow base e size v n xs := by
  refine ⟨ho.1, ?_⟩
  rcases ho.2 with hn | ⟨g, cap, cur, rfl, hbg, hgg, rest⟩
  · exact .inl hn
  · exact .inr ⟨g, cap, cur, rfl, hbg, h.keep hgg (hs g rfl), rest⟩
theorem Only.mesh {w w' : World} {S : Nat → Prop} {m : Nat} {room : Int} {L : List ByteArray} (h : Only w w' S) (hm : IsMesh w m room L) (hs : ∀ k, S k → k ≠ m ∧ ∀ cur, w.heap[k]? ≠ some (.cells cur 9 (0, 0))) : IsMesh w' m room L := by
  obtain ⟨v, hb, ho⟩ := hm
  refine ⟨v, h.keep hb (fun hk => (hs m hk).1 rfl), h.own ho fun g hg hk => ?_⟩
  rcases ho.2 with ⟨rfl, _⟩ | ⟨g', cap, cur, rfl, _, hgg, _⟩
  · cases hg
  · simp only [Value.ownBlock, Option.some.injEq] at hg
    subst hg
    exact (hs _ hk).2 cur hgg
theorem IsMesh.lt {w : World} {m : Nat} {room : Int} {L : List ByteArray} (h : IsMesh w m room L) : m < w.heap.size := by obtain ⟨v, hb, _⟩ := h; exact lt_of_block hb

theorem mesh_new (w : World) (r r' : Int) (h : r = r') : IsMesh (w.alloc (.cells #[.int .i64 r, .slice none 0 0] 50)) w.heap.size r' [] :=
  h ▸ ⟨.slice none 0 0, heap_alloc_new _ _, World.ownsRow_nil _ _ _ _⟩
theorem Only.drewN {a b : World} {S : Nat → Prop} (h : Only a b S) (k : Nat) : Only a (b.drewN k) S := ⟨h.os, h.tape, h.output, h.size, h.block⟩
theorem Only.of_drewN {a b : World} {S : Nat → Prop} {k : Nat} (h : Only (a.drewN k) b S) : Only a b S := ⟨h.os, h.tape, h.output, h.size, h.block⟩
/-- The block of a mesh's row is none that holds no row of it. -/
def Apart (w : World) (m b : Nat) : Prop := ∀ xs, w.heap[m]? = some (.cells xs 50 (0, 0)) → ∀ v, v ∈ xs → v.ownBlock ≠ some b
theorem apart_new {w w' : World} {m b : Nat} {room : Int} {L : List ByteArray} (hm : IsMesh w m room L) (hk : w'.heap[m]? = w.heap[m]?) (hb : w.heap.size ≤ b) : Apart w' m b := by
  obtain ⟨v, h1, ho⟩ := hm
  intro xs hx u hu e
  rw [hk, h1] at hx
  simp only [Option.some.injEq, Obj.cells.injEq, and_true] at hx
  subst hx
  simp only [List.mem_toArray, List.mem_cons, List.not_mem_nil, or_false] at hu
  rcases hu with rfl | rfl
  · cases e
  · have := (ho.lt b e).2
    omega
theorem Only.mesh_set {w w' : World} {m b : Nat} {room : Int} {L : List ByteArray} (h : Only w w' (· = b)) (hm : IsMesh w m room L) (hb : m ≠ b) (ha : Apart w m b) : IsMesh w' m room L := by
  obtain ⟨v, h1, ho⟩ := hm
  refine ⟨v, h.keep h1 hb, h.own ho fun g hg e => ?_⟩
  subst e
  exact ha _ h1 v (by simp) hg
theorem IsMesh.drewN {w : World} {m : Nat} {room : Int} {L : List ByteArray} (h : IsMesh w m room L) (k : Nat) : IsMesh (w.drewN k) m room L := h

set_option maxHeartbeats 800000 in
theorem new_any (room : Int) (w : World) : Calls Try.prog 9 #[.int .i64 room] w fun e w' => e = .returned (.pointer (some ⟨w.heap.size, 0, none⟩)) ∧ IsMesh w' w.heap.size (min (max room 1) 64) [] ∧ Only w w' (fun _ => False) := by
  go_enter Try.func9, Try.ntmps9
  go_wp2
  all_goals
    go_ret
    exact ⟨rfl, mesh_new _ _ _ (by omega), Only.alloc _ _ _⟩

/-- What Send leaves, and answers. -/
def sentL (room : Int) (L : List ByteArray) (s : ByteArray) : List ByteArray := if (L.length : Int) < room then L ++ [s] else L
def sentB (room : Int) (L : List ByteArray) : Bool := decide ((L.length : Int) < room)
theorem sentL_yes {room : Int} {L : List ByteArray} {s : ByteArray} (h : (L.length : Int) < room) : sentL room L s = L ++ [s] := if_pos h
theorem sentL_no {room : Int} {L : List ByteArray} {s : ByteArray} (h : ¬ (L.length : Int) < room) : sentL room L s = L := if_neg h
theorem sentB_yes {room : Int} {L : List ByteArray} (h : (L.length : Int) < room) : sentB room L = true := decide_eq_true h
theorem sentB_no {room : Int} {L : List ByteArray} (h : ¬ (L.length : Int) < room) : sentB room L = false := decide_eq_false h

set_option maxHeartbeats 800000 in
theorem send_any (m : Nat) (room : Int) (s : ByteArray) (L : List ByteArray) (w : World) (hm : IsMesh w m room L) (hr : room ≤ 64) :
    Calls Try.prog 18 #[.pointer (some ⟨m, 0, none⟩), .string s] w fun e w' => e = .returned (.bool (sentB room L)) ∧
      IsMesh w' m room (sentL room L s) ∧ Only w w' (· = m) := by
  have hm0 := hm
  obtain ⟨v, hb, ho⟩ := hm
  have c0 : w.cell? ⟨m, 0, none⟩ = some (.int .i64 room) := by simp [World.cell?, hb]
  have c1 : w.cell? ⟨m, 1, none⟩ = some v := by simp [World.cell?, hb]
  obtain ⟨sp, cap, rfl⟩ := own_shape ho
  by_cases hlt : (L.length : Int) < room
  · rw [sentL_yes hlt, sentB_yes hlt]
    have hL : L.length ≤ 64 := by omega
    go_enter Try.func18, Try.ntmps18
    go_wp2_with fail
    go_quiet (fail)
    go_wp2_with fail
    refine (lay_any m room L.length s L _ (hm0.drewN _) (Nat.le_refl _) (by omega)).mono ?_
    rintro e w' ⟨rfl, h1, h2⟩
    go_wp2
    go_ret
    refine ⟨rfl, by simpa using h1, ?_⟩
    exact (Only.of_grown h2).of_drewN
  · rw [sentL_no hlt, sentB_no hlt]
    have hge : room ≤ (L.length : Int) := by omega
    go_enter Try.func18, Try.ntmps18
    go_wp2_with fail
    go_quiet (fail)
    go_wp2
    go_ret
    exact ⟨rfl, hm0, (Only.refl _ _).drewN _⟩

/-- Place n, if there is one. -/
def there (n : Int) (L : List ByteArray) : Bool := decide (0 ≤ n ∧ n < L.length)

set_option maxHeartbeats 800000 in
theorem take_clo (m bt bm bn : Nat) (room : Int) (n : Nat) (s x : ByteArray) (L : List ByteArray) (w : World) (hm : IsMesh w m room L) (hn : n < L.length) (hL : L.length ≤ 64)
    (ht : w.heap[bt]? = some (.cells #[.string x] 9 (0, 0))) (hbm : w.heap[bm]? = some (.cells #[.pointer (some ⟨m, 0, none⟩)] 24 (0, 0))) (hbn : w.heap[bn]? = some (.cells #[.int .i64 n] 3 (0, 0)))
    (hd : Apart w m bt) (hne : m ≠ bt) (hne1 : bm ≠ bt) (hne2 : bn ≠ bt) :
    Calls Try.prog 32 #[.string s, .pointer (some ⟨bt, 0, none⟩), .pointer (some ⟨bm, 0, none⟩), .pointer (some ⟨bn, 0, none⟩)] w fun e w' => e = .returned (.tuple #[]) ∧
      (IsMesh w' m room (L.take n ++ L.drop (n + 1)) ∧ w'.heap[bt]? = some (.cells #[.string s] 9 (0, 0)) ∧ Only w w' (fun k => k = m ∨ k = bt)) := by
  have hO : Only w (w.setCell ⟨bt, 0, none⟩ (.string s)) (· = bt) := Only.setCell _ _ _ _ _ rfl
  have a1 := cell_of_one ht
  have a2 := free_of_one ht
  have a3 := cell_of_one (hO.keep hbm hne1)
  have a4 := cell_of_one (hO.keep hbn hne2)
  have h1 := one_setCell (u := .string s) ht
  go_enter Try.func32, Try.ntmps32
  go_wp2_with fail
  refine (cut_any m room n L _ (hO.mesh_set hm hne hd) hn hL).mono ?_
  rintro e w' ⟨rfl, k1, k2⟩
  go_wp2
  go_end0
  have k3 := Only.of_grown k2
  exact ⟨rfl, k1, k3.keep h1 (Ne.symm hne), (hO.mono (fun _ h => .inr h)).trans (k3.mono (fun _ h => .inl h))⟩

theorem there_true {n : Int} {L : List ByteArray} (h0 : 0 ≤ n) (h1 : n < L.length) : there n L = true := by simp [there, h0, h1]
theorem there_false {n : Int} {L : List ByteArray} (h : ¬ (0 ≤ n ∧ n < (L.length : Int))) : there n L = false := by simp [there]; omega
/-- What Take leaves, and answers. -/
def takenL (n : Int) (L : List ByteArray) : List ByteArray := if there n L then L.eraseIdx n.toNat else L
def takenS (n : Int) (L : List ByteArray) : ByteArray := if there n L then L[n.toNat]?.getD ByteArray.empty else ByteArray.empty
theorem takenL_yes {k : Nat} {L : List ByteArray} (h : k < L.length) : takenL k L = L.take k ++ L.drop (k + 1) := by
  unfold takenL; rw [if_pos (there_true (by omega) (by omega)), List.eraseIdx_eq_take_drop_succ]; rfl
theorem takenS_yes {k : Nat} {L : List ByteArray} (h : k < L.length) : takenS k L = L[k] := by
  unfold takenS; rw [if_pos (there_true (by omega) (by omega))]; simp [h]
theorem takenL_no {n : Int} {L : List ByteArray} (h : ¬ (0 ≤ n ∧ n < (L.length : Int))) : takenL n L = L := by unfold takenL; rw [there_false h]; rfl
theorem takenS_no {n : Int} {L : List ByteArray} (h : ¬ (0 ≤ n ∧ n < (L.length : Int))) : takenS n L = ByteArray.empty := by unfold takenS; rw [there_false h]; rfl

/-- Three new blocks. -/
theorem three (w : World) (o1 o2 o3 : Obj) : Only w (((w.alloc o1).alloc o2).alloc o3) (fun _ => False) ∧ (((w.alloc o1).alloc o2).alloc o3).heap[w.heap.size]? = some o1 ∧ (((w.alloc o1).alloc o2).alloc o3).heap[w.heap.size + 1]? = some o2 ∧
    (((w.alloc o1).alloc o2).alloc o3).heap[w.heap.size + 1 + 1]? = some o3 ∧ (((w.alloc o1).alloc o2).alloc o3).heap.size = w.heap.size + 3 := by
  refine ⟨((Only.alloc _ _ _).trans (Only.alloc _ _ _)).trans (Only.alloc _ _ _), ?_, ?_, ?_, by simp⟩
  · rw [Below.heap_alloc _ _ _ (by simp; omega), Below.heap_alloc _ _ _ (by simp), heap_alloc_new]
  · rw [Below.heap_alloc _ _ _ (by simp), show w.heap.size + 1 = (w.alloc o1).heap.size by simp, heap_alloc_new]
  · rw [show w.heap.size + 1 + 1 = ((w.alloc o1).alloc o2).heap.size by simp, heap_alloc_new]

set_option maxHeartbeats 800000 in
theorem take_any (m : Nat) (room : Int) (n : Int) (L : List ByteArray) (w : World) (hm : IsMesh w m room L) (hL : L.length ≤ 64) :
    Calls Try.prog 20 #[.pointer (some ⟨m, 0, none⟩), .int .i64 n] w fun e w' => e = .returned (.tuple #[.string (takenS n L), .bool (there n L)]) ∧
      IsMesh w' m room (takenL n L) ∧ Only w w' (· = m) := by
  have hmf : ∀ (fn : Fn) (first cap : Array Value) (w : World), (Instr.makeFunc fn first cap).run Try.prog w = .ok (.func fn first cap) w := fun _ _ _ _ => rfl
  have hml := hm.lt
  go_enter Try.func20, Try.ntmps20
  go_wp2_with fail
  obtain ⟨q1, q2, q3, q4, q5⟩ := three w (Obj.cells #[Value.pointer (some { block := m, off := 0 })] 24) (Obj.cells #[Value.int IntKind.i64 n] 3) (Obj.cells #[Value.string { data := #[] }] 9)
  generalize (((w.alloc (Obj.cells #[Value.pointer (some { block := m, off := 0 })] 24)).alloc (Obj.cells #[Value.int IntKind.i64 n] 3)).alloc (Obj.cells #[Value.string { data := #[] }] 9)) = w1 at q1 q2 q3 q4 q5
  have hm1 : IsMesh w1 m room L := q1.mesh hm (fun _ h => h.elim)
  by_cases hn : 0 ≤ n ∧ n < L.length
  · obtain ⟨hn0, hn1⟩ := hn
    obtain ⟨k, rfl⟩ := Int.eq_ofNat_of_zero_le hn0
    have hk : k < L.length := by omega
    have hclo := take_clo m (w.heap.size + 1 + 1) w.heap.size (w.heap.size + 1) room k L[k] _ L w1 hm1 hk hL q4 q2 q3 (apart_new hm (q1.block m hml (fun h => h)) (by omega)) (by omega) (by omega) (by omega)
    refine (at_hit m room k L w1 32 #[.pointer (some ⟨w.heap.size + 1 + 1, 0, none⟩), .pointer (some ⟨w.heap.size, 0, none⟩), .pointer (some ⟨w.heap.size + 1, 0, none⟩)] _ _ hm1 hk hL cf32 (by rfl) hclo).mono ?_
    rintro e w' ⟨rfl, k1, k2, k3⟩
    have a1 := cell_of_one k2
    go_wp2
    go_ret2
    rw [takenL_yes hk, takenS_yes hk, there_true hn0 hn1]
    exact ⟨rfl, k1, (q1.mono (fun _ h => h.elim)).trans' k3 (fun i hi h => by omega)⟩
  · refine (at_miss m room n L w1 _ hm1 (by omega) hL).mono ?_
    rintro e w' ⟨rfl, rfl⟩
    have a1 := cell_of_one q4
    go_wp2
    go_ret2
    rw [takenL_no hn, takenS_no hn, there_false hn]
    exact ⟨rfl, hm1, q1.mono (fun _ h => h.elim)⟩

end Go.Proofs.Ytkejbpkpdgnodaa
