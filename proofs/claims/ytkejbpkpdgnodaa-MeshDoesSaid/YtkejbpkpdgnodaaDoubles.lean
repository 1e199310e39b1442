/- The walk of MeshDoubles. -/
import Derived.Test.YtkejbpkpdgnodaaT
import Derived.Test.YtkejbpkpdgnodaaMoves
namespace Go.Proofs.Ytkejbpkpdgnodaa
open Go.RowKit

theorem length_sentL {room : Int} {L : List ByteArray} {s : ByteArray} (h : (L.length : Int) ≤ room) : ((sentL room L s).length : Int) ≤ room := by
  by_cases h1 : (L.length : Int) < room
  · rw [sentL_yes h1]; simp; omega
  · rw [sentL_no h1]; exact h
theorem length_takenL {n : Int} {L : List ByteArray} : (takenL n L).length ≤ L.length := by
  by_cases h : 0 ≤ n ∧ n < (L.length : Int)
  · obtain ⟨k, rfl⟩ := Int.eq_ofNat_of_zero_le h.1
    rw [takenL_yes (by omega)]; simp; omega
  · rw [takenL_no h]; exact Nat.le_refl _
theorem length_doubledL {room n : Int} {L : List ByteArray} (h : (L.length : Int) ≤ room) : ((doubledL room n L).length : Int) ≤ room := by
  unfold doubledL
  split
  · exact length_sentL h
  · exact h
theorem length_movedL {n to : Int} {L : List ByteArray} : (movedL n to L).length = L.length := by
  by_cases h : 0 ≤ n ∧ n < (L.length : Int)
  · by_cases h2 : 0 ≤ to ∧ to < (L.length : Int)
    · obtain ⟨k, rfl⟩ := Int.eq_ofNat_of_zero_le h.1
      obtain ⟨j, rfl⟩ := Int.eq_ofNat_of_zero_le h2.1
      rw [movedL_yes (by omega) (by omega)]
      exact length_movedAt (by omega) (by omega)
    · rw [movedL_no' h2]
  · rw [movedL_no h]
theorem length_doL {room : Int} {a : MAct} {L : List ByteArray} (h : (L.length : Int) ≤ room) : ((doL room a L).length : Int) ≤ room := by
  unfold doL
  split
  · exact length_sentL h
  · split
    · have := length_takenL (n := a.n) (L := L); omega
    · split
      · have := length_takenL (n := a.n) (L := L); omega
      · split
        · exact length_doubledL h
        · rw [length_movedL]; exact h

theorem same_self (sa sb : Option Addr) (ca cb : Nat) (A : List ByteArray) (w : World) (hA : Reads w sa A) (hB : Reads w sb A) (ma : A.length ≤ maxLen) :
    Calls Try.prog 14 #[.slice sa A.length ca, .slice sb A.length cb] w fun e w' => e = .returned (.bool true) ∧ Drawn w w' := by
  have h := same_q sa sb ca cb A A w hA hB ma ma
  rw [alike_self] at h
  exact h
theorem reads_pre {w : World} {g : Nat} {L K : List ByteArray} (h : w.heap[g]? = some (.cells ((L ++ K).map Value.string).toArray 9 (0, 0))) : Reads w (some ⟨g, 0, none⟩) L :=
  fun _ => ⟨g, 0, rfl, lt_of_block h, fun j hj => by rw [cell_arr h]; simp [hj, List.getElem_append]; rw [List.getElem?_append_left (by simpa using hj)]; simp [hj]⟩
theorem cell_row {w : World} {g : Nat} {L : List ByteArray} (h : w.heap[g]? = some (.cells (L.map Value.string).toArray 9 (0, 0))) {j : Nat} (hj : j < L.length) : w.cell? ⟨g, j, none⟩ = some (.string L[j]) := by
  rw [cell_arr h]; simp [hj]

set_option maxHeartbeats 3200000 in
set_option maxRecDepth 100000 in
theorem doubles_any (room : Int) (r : Nat) (n : Int) (sp : Option Addr) (cap : Nat) (l : List MAct) (w : World) (hl : ReadsA w sp l) (hmax : l.length ≤ maxLen)
    (hr : (room < 1 ∧ r ≤ 1 ∨ 1 ≤ room ∧ room ≤ 64 ∧ room = r ∨ 64 < room ∧ 64 ≤ r) ∧ 1 ≤ r ∧ r ≤ 64) :
    Calls Try.prog 7 #[.int .i64 room, .slice sp l.length cap, .int .i64 n] w fun e w' => e = .returned (.bool true) ∧ Below w.heap.size w w' := by
  obtain ⟨hr, hr0, hr1⟩ := hr
  have hmax0 := hmax
  have hrr : min (max room 1) 64 = (r : Int) := by omega
  unfold maxLen at hmax
  have hmax : l.length ≤ 9223372036854775807 := by omega
  rcases hr with ⟨hr2, hr3⟩ | ⟨hr2, hr3, rfl⟩ | ⟨hr2, hr3⟩
  all_goals
    go_enter Try.func7, Try.ntmps7
    go_wp2_with fail
    refine (works_any w).mono ?_
    rintro e w1 ⟨rfl, o1⟩
    go_wp2_with fail
    refine (new_any _ w1).mono ?_
    rintro e w2 ⟨rfl, m2, o2⟩
    have b2 : Below w.heap.size w w2 := (o1.below (Nat.le_refl _) (fun _ h => h.elim)).trans (o2.below o1.size (fun _ h => h.elim))
    have hs1 := o1.size
    rw [hrr] at m2
    generalize w1.heap.size = m at m2 o2 hs1 ⊢
    have hmw := m2.lt
    clear o1 o2 hrr
    go_wp2_with fail
    refine (few_any sp cap l w2 (hl.below b2) hmax0).mono ?_
    rintro e w3 ⟨fb, rfl, hfb, rfl⟩
    cases fb with
    | false =>
      clear hfb
      go_wp2
      go_ret
      exact ⟨rfl, b2⟩
    | true =>
      have hfew := hfb rfl
      clear hfb
      go_wp2_with fail
      go_loopw [10] (fun i wr => ∃ k : Nat, k ≤ l.length ∧ i = .int .i64 k ∧ (∃ L : List ByteArray, (L.length : Int) ≤ r ∧ IsMesh wr m r L) ∧ Below w.heap.size w wr) (fun i _ => l.length - (intOf i).toNat)
      case atStart => exact ⟨0, Nat.zero_le _, rfl, ⟨[], by simp, m2⟩, b2⟩
      case round =>
        obtain ⟨k, hk, rfl, ⟨L, hL, hm⟩, hb⟩ := hrel
        by_cases hlk : k < l.length
        · obtain ⟨b, off, rfl, hbl, hc⟩ := hl (by omega)
          obtain ⟨c0, c1, c2, c3⟩ := hc k hlk
          have c0 := (hb.cell (p := ⟨b, off + k * 4, none⟩) hbl).trans c0
          have c1 := (hb.cell (p := ⟨b, off + k * 4 + 1, none⟩) hbl).trans c1
          have c2 := (hb.cell (p := ⟨b, off + k * 4 + 2, none⟩) hbl).trans c2
          have c3 := (hb.cell (p := ⟨b, off + k * 4 + 3, none⟩) hbl).trans c3
          clear hc hl
          go_wp2_with fail
          refine (do_any m r l[k] L wr hm (by omega) (by omega)).mono ?_
          rintro e w4 ⟨rfl, m4, o4⟩
          have hb4 := below_only hb o4 (by have := hb.size; omega) hs1
          have hL4 := length_doL (a := l[k]) hL
          go_wp2
          go_roundw
          case rel => exact ⟨k + 1, by omega, by go_num, ⟨_, hL4, m4⟩, hb4⟩
          case measure => simp [intOf]; omega
        · go_wp2_with fail
          refine (all_any m r L wr hm (by omega)).mono ?_
          rintro e w4 ⟨gA, rfl, hgA0, hgA, o4⟩
          have m4 := o4.mesh hm (fun _ h => h.elim)
          have hb4 := hb.trans (o4.below (B := w.heap.size) hb.size (fun _ h => h.elim))
          have hgm : gA ≠ m := by have := hm.lt; omega
          clear hl
          by_cases hn : 0 ≤ n ∧ n < L.length
          · obtain ⟨hn0, hn1⟩ := hn
            obtain ⟨x, rfl⟩ := Int.eq_ofNat_of_zero_le hn0
            have hx : x < L.length := by omega
            by_cases hroom : L.length < r
            · have f1 := double_any m r x L w4 m4 (by omega) (by omega)
              rw [doubledL_yes hx, doubledB_yes hx, sentL_yes (by omega), sentB_yes (by omega)] at f1
              have F1 := Lib.hid f1
              clear f1
              go_wp2_with fail
              refine F1.out.mono ?_
              rintro e w5 ⟨rfl, m5, o5⟩
              have hb5 := below_only hb4 o5 (by have := hb4.size; omega) hs1
              have hgA5 := o5.keep hgA hgm
              have f2 := all_any m r _ w5 m5 (by simp; omega)
              rw [show (L ++ [L[x]]).length = L.length + 1 by simp] at f2
              have F2 := Lib.hid f2
              clear f2
              go_wp2_with fail
              refine F2.out.mono ?_
              rintro e w6 ⟨gB, rfl, hgB0, hgB, o6⟩
              have hb6 := hb5.trans (o6.below (B := w.heap.size) hb5.size (fun _ h => h.elim))
              have hgA6 := o6.keep hgA5 (fun h => h)
              have hck := cell_row hgA6 hx
              have hck2 : w6.cell? ⟨gB, L.length, none⟩ = some (.string L[x]) := by
                rw [cell_row hgB (by simp)]; simp
              have HA := Lib.hid (reads_row hgA6)
              have HB := Lib.hid (reads_pre hgB)
              clear hgA hgA5 hgA6 hgB
              try have hd1 : decide ((L.length : Int) < 1) = true := decide_eq_true (by omega)
              try have hd2 : decide ((L.length : Int) < 64) = true := decide_eq_true (by omega)
              have hd3 : decide ((L.length : Int) < (r : Int)) = true := decide_eq_true (by omega)
              have i1 : (L.length : Int) ≤ (L.length : Int) + 1 := by omega
              have i2 : (0 : Int) ≤ (L.length : Int) := by omega
              have i3 : (L.length : Int) < (L.length : Int) + 1 := by omega
              have i4 : IntKind.i64.wrap ((L.length : Int) + 1) = (L.length : Int) + 1 := IntWalk.i64_in _ (by omega)
              go_wp2_with fail
              go_quiet ((go_at_call 14; exact Calls.quiet_of (same_self _ _ _ _ L _ HB.out HA.out (by unfold maxLen; omega))))
              go_wp2
              go_ret
              exact ⟨rfl, hb6.drewN _⟩
            · have f1 := double_any m r x L w4 m4 (by omega) (by omega)
              rw [doubledL_yes hx, doubledB_yes hx, sentL_no (by omega), sentB_no (by omega)] at f1
              have F1 := Lib.hid f1
              clear f1
              go_wp2_with fail
              refine F1.out.mono ?_
              rintro e w5 ⟨rfl, m5, o5⟩
              have hb5 := below_only hb4 o5 (by have := hb4.size; omega) hs1
              have hgA5 := o5.keep hgA hgm
              go_wp2_with fail
              refine (all_any m r _ w5 m5 (by omega)).mono ?_
              rintro e w6 ⟨gB, rfl, hgB0, hgB, o6⟩
              have hb6 := hb5.trans (o6.below (B := w.heap.size) hb5.size (fun _ h => h.elim))
              have hgA6 := o6.keep hgA5 (fun h => h)
              have HA := Lib.hid (reads_row hgA6)
              have HB := Lib.hid (reads_row hgB)
              clear hgA hgA5 hgA6 hgB
              try have hd1 : decide ((L.length : Int) < 1) = false := decide_eq_false (by omega)
              try have hd2 : decide ((L.length : Int) < 64) = false := decide_eq_false (by omega)
              have hd3 : decide ((L.length : Int) < (r : Int)) = false := decide_eq_false (by omega)
              go_wp2_with fail
              refine (same_self _ _ _ _ L w6 HA.out HB.out (by unfold maxLen; omega)).mono ?_
              rintro e w7 ⟨rfl, d7⟩
              go_wp2
              go_ret
              exact ⟨rfl, hb6.trans (d7.below _)⟩
          · have f1 := double_any m r n L w4 m4 (by omega) (by omega)
            rw [doubledL_no hn, doubledB_no hn] at f1
            have F1 := Lib.hid f1
            clear f1
            rcases (show n < 0 ∨ (L.length : Int) ≤ n by omega) with ht | ht
            all_goals
              clear hn
              go_wp2_with fail
              refine F1.out.mono ?_
              rintro e w5 ⟨rfl, m5, o5⟩
              have hb5 := below_only hb4 o5 (by have := hb4.size; omega) hs1
              have hgA5 := o5.keep hgA hgm
              go_wp2_with fail
              refine (all_any m r _ w5 m5 (by omega)).mono ?_
              rintro e w6 ⟨gB, rfl, hgB0, hgB, o6⟩
              have hb6 := hb5.trans (o6.below (B := w.heap.size) hb5.size (fun _ h => h.elim))
              have hgA6 := o6.keep hgA5 (fun h => h)
              have HA := Lib.hid (reads_row hgA6)
              have HB := Lib.hid (reads_row hgB)
              clear hgA hgA5 hgA6 hgB
              go_wp2_with fail
              refine (same_self _ _ _ _ L w6 HA.out HB.out (by unfold maxLen; omega)).mono ?_
              rintro e w7 ⟨rfl, d7⟩
              go_wp2
              go_ret
              exact ⟨rfl, hb6.trans (d7.below _)⟩

end Go.Proofs.Ytkejbpkpdgnodaa
