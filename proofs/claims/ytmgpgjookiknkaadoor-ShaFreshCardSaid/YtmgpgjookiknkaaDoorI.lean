/- The document's example holds: the contract of works. -/
import Derived.Test.YtmgpgjookiknkaaDoorG
import Derived.Test.YtmgpgjookiknkaaDoorH
namespace Go.Proofs.YtmgpgjookiknkaaDoor
open Go.RowKit

theorem hex_want : hx (tx [186, 120, 22, 191, 143, 1, 207, 234, 65, 65, 64, 222, 93, 174, 34, 35, 176, 3, 97, 163, 150, 23, 122, 156, 180, 16, 255, 97, 242, 0, 21, 173]) = { data := #[98, 97, 55, 56, 49, 54, 98, 102, 56, 102, 48, 49, 99, 102, 101, 97, 52, 49, 52, 49, 52, 48, 100, 101, 53, 100, 97, 101, 50, 50, 50, 51, 98, 48, 48, 51, 54, 49, 97, 51, 57, 54, 49, 55, 55, 97, 57, 99, 98, 52, 49, 48, 102, 102, 54, 49, 102, 50, 48, 48, 49, 53, 97, 100] } := by kernel_rfl
theorem of_ab_c (w : World) (hL : Laid w) :
    Calls Tryd.prog 9 #[.slice (some ⟨w.heap.size, 0, none⟩) 2 2] (w.alloc (.cells #[.string { data := #[97] }, .string { data := #[98, 99] }] 9)) fun e w' => e = .returned (.string (tx (Sh.of [97, 98, 99]))) ∧ Below w.heap.size w w' :=
  of_two { data := #[97] } { data := #[98, 99] } w hL (by decide) (by decide)
theorem hex_abc (w : World) : Calls Tryd.prog 10 #[.string (tx (Sh.of [97, 98, 99]))] w fun e w' => e = .returned (.string { data := #[98, 97, 55, 56, 49, 54, 98, 102, 56, 102, 48, 49, 99, 102, 101, 97, 52, 49, 52, 49, 52, 48, 100, 101, 53, 100, 97, 101, 50, 50, 50, 51, 98, 48, 48, 51, 54, 49, 97, 51, 57, 54, 49, 55, 55, 97, 57, 99, 98, 52, 49, 48, 102, 102, 54, 49, 102, 50, 48, 48, 49, 53, 97, 100] }) ∧ Below w.heap.size w w' := by
  have h := hex_any (tx (Sh.of [97, 98, 99])) w (by rw [tx_size, Sh.of_length]; decide)
  rw [Sh.of_abc, hex_want] at h
  rw [Sh.of_abc]
  exact h
theorem st_a (w : World) (g n : Nat) (hh : IsHash w g Sh.st0 n) (hL : Laid w) (h0 : 0 < g) (hn : n = 0) :
    Calls Tryd.prog 12 #[.pointer (some ⟨g, 0, none⟩), .string { data := #[97] }] w fun e w' => e = .returned (.pointer (some ⟨g, 0, none⟩)) ∧ IsHash w' g (Sh.write Sh.st0 [97]) 1 ∧ OnlyB w.heap.size g w w' := by
  subst hn
  exact write_any g w Sh.st0 0 { data := #[97] } hh hL h0 (by decide)
theorem st_bc (w : World) (g : Nat) (hh : IsHash w g (Sh.write Sh.st0 [97]) 1) (hL : Laid w) (h0 : 0 < g) :
    Calls Tryd.prog 12 #[.pointer (some ⟨g, 0, none⟩), .string { data := #[98, 99] }] w fun e w' => e = .returned (.pointer (some ⟨g, 0, none⟩)) ∧ IsHash w' g (Sh.write Sh.st0 [97, 98, 99]) 3 ∧ OnlyB w.heap.size g w w' :=
  write_any g w _ 1 { data := #[98, 99] } hh hL h0 (by decide)
theorem sum_abc (w : World) (g : Nat) (hh : IsHash w g (Sh.write Sh.st0 [97, 98, 99]) 3) (hL : Laid w) :
    Calls Tryd.prog 13 #[.pointer (some ⟨g, 0, none⟩)] w fun e w' => e = .returned (.string (tx (Sh.of [97, 98, 99]))) ∧ Below w.heap.size w w' :=
  sum_any g w _ 3 hh hL (by decide)
theorem tx_inj {l m : List Nat} (hl : ∀ x ∈ l, x < 256) (hm : ∀ x ∈ m, x < 256) (h : tx l = tx m) : l = m := by
  rw [← bl_tx hl, ← bl_tx hm, h]
theorem of_lt (l : List Nat) : ∀ x ∈ Sh.of l, x < 256 := bytes_lt _
theorem col_a_b : colB { data := #[97] } { data := #[98] } = false := by
  unfold colB
  rw [Bool.and_eq_false_iff]
  right
  rw [beq_eq_false_iff_ne]
  intro h
  rw [str_eq] at h
  exact Sh.of_a_b (tx_inj (of_lt _) (of_lt _) h)
theorem col_self (a : ByteArray) : colB a a = false := by simp [colB]
theorem collide_a_b (w : World) (hL : Laid w) : Calls Tryd.prog 8 #[.string { data := #[97] }, .string { data := #[98] }] w fun e w' => e = .returned (.bool false) ∧ Below w.heap.size w w' := by
  have h := collide_any { data := #[97] } { data := #[98] } w hL (by decide) (by decide)
  rw [col_a_b] at h
  exact h
theorem collide_a_a (w : World) (hL : Laid w) : Calls Tryd.prog 8 #[.string { data := #[97] }, .string { data := #[97] }] w fun e w' => e = .returned (.bool false) ∧ Below w.heap.size w w' := by
  have h := collide_any { data := #[97] } { data := #[97] } w hL (by decide) (by decide)
  rw [col_self] at h
  exact h

/-- What is kept from step to step: the hash at g, nothing older has turned. -/
structure Wk (w : World) (s : Sh.St) (n : Nat) (w1 : World) : Prop where
  hash : IsHash w1 w.heap.size s n
  laid : Laid w1
  bel : Below w.heap.size w w1
  pos : 0 < w.heap.size
  lt : w.heap.size < w1.heap.size
theorem Wk.new {w : World} (hL : Laid w) : Wk w Sh.st0 0 (w.alloc (.cells (hcells Sh.H0 (List.replicate 64 0) 0 0).toArray 45)) :=
  ⟨H0_hash w, hL.below ((Below.refl _ _).alloc (Nat.le_refl _) _) hL.1, (Below.refl _ _).alloc (Nat.le_refl _) _, hL.1, by simp⟩
theorem Wk.only {w w1 w2 : World} {s s2 : Sh.St} {n n2 : Nat} (h : Wk w s n w1) (hh : IsHash w2 w.heap.size s2 n2) (ho : OnlyB w1.heap.size w.heap.size w1 w2) : Wk w s2 n2 w2 :=
  ⟨hh, h.laid.only ho h.pos (by have := h.lt; omega), h.bel.trans (ho.below (Nat.le_refl _) h.bel.size), h.pos, Nat.lt_of_lt_of_le h.lt ho.size⟩
theorem Wk.below {w w1 w2 : World} {s : Sh.St} {n : Nat} (h : Wk w s n w1) (hb : Below w1.heap.size w1 w2) : Wk w s n w2 :=
  ⟨h.hash.keep (hb.block _ h.lt), h.laid.below hb (by have := h.lt; omega), h.bel.trans (hb.mono h.bel.size), h.pos, Nat.lt_of_lt_of_le h.lt hb.size⟩

set_option maxRecDepth 100000 in
set_option maxHeartbeats 1600000 in
theorem works_any (w : World) (hL : Laid w) : Calls Tryd.prog 7 #[] w fun e w' => e = .returned (.bool true) ∧ Below w.heap.size w w' := by
  have HL := Lib.hid hL
  clear hL
  go_enter Tryd.func7, Tryd.ntmps7
  go_wp2_with (first | ((with_reducible refine (new_any _).mono ?_); rintro e w1 ⟨rfl, hw1⟩; have K1 := Lib.hid (show Wk w Sh.st0 0 w1 by rw [hw1]; exact Wk.new HL.out); clear hw1) | ((with_reducible refine (st_a _ _ 0 K1.out.hash K1.out.laid K1.out.pos rfl).mono ?_); rintro e w2 ⟨rfl, h2, o2⟩; have K2 := Lib.hid (K1.out.only h2 o2); clear h2 o2) | ((with_reducible refine (st_bc _ _ K2.out.hash K2.out.laid K2.out.pos).mono ?_); rintro e w3 ⟨rfl, h3, o3⟩; have K3 := Lib.hid (K2.out.only h3 o3); clear h3 o3) | ((with_reducible refine (of_ab_c _ K3.out.laid).mono ?_); rintro e w4 ⟨rfl, b4⟩; have K4 := Lib.hid (K3.out.below b4); clear b4) | ((with_reducible refine (hex_abc _).mono ?_); rintro e w7 ⟨rfl, b7⟩; have K7 := Lib.hid (K6.out.below b7); clear b7) | ((with_reducible refine (hex_abc _).mono ?_); rintro e w5 ⟨rfl, b5⟩; have K5 := Lib.hid (K4.out.below b5); clear b5) | ((with_reducible refine (sum_abc _ _ K5.out.hash K5.out.laid).mono ?_); rintro e w6 ⟨rfl, b6⟩; have K6 := Lib.hid (K5.out.below b6); clear b6) | ((with_reducible refine (collide_a_b _ K7.out.laid).mono ?_); rintro e w8 ⟨rfl, b8⟩; have K8 := Lib.hid (K7.out.below b8); clear b8) | ((with_reducible refine (collide_a_a _ K8.out.laid).mono ?_); rintro e w9 ⟨rfl, b9⟩; have K9 := Lib.hid (K8.out.below b9); clear b9))
  go_ways
  go_ret
  exact ⟨rfl, K9.out.bel⟩
end Go.Proofs.YtmgpgjookiknkaaDoor
