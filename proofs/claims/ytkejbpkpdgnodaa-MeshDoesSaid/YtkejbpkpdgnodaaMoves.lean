/- The walk of MeshMoves. -/
import Derived.Test.YtkejbpkpdgnodaaS
import Derived.Deep.LoopGhost
namespace Go.Proofs.Ytkejbpkpdgnodaa
open Go.RowKit

theorem length_movedAt {k j : Nat} {L : List ByteArray} (hk : k < L.length) (hj : j < L.length) : (movedAt k j L).length = L.length := by
  unfold movedAt; simp; omega
theorem movedAt_at {k j : Nat} {L : List ByteArray} (hk : k < L.length) (hj : j < L.length) : (movedAt k j L)[j]? = some L[k] := by
  unfold movedAt
  rw [List.getElem?_append_right (by simp; omega)]
  have : j - ((L.take k ++ L.drop (k + 1)).take j).length = 0 := by simp; omega
  rw [this]
  simp [hk]
theorem ins_take {K : List ByteArray} {s : ByteArray} {j : Nat} (hj : j ≤ K.length) : (K.take j ++ s :: K.drop j).take j ++ (K.take j ++ s :: K.drop j).drop (j + 1) = K := by
  have hl : (K.take j).length = j := by simp; omega
  rw [List.take_append_of_le_length (by omega), List.take_of_length_le (by omega), List.drop_append, List.drop_eq_nil_of_le (show (K.take j).length ≤ j + 1 by omega), hl, List.nil_append]
  have : j + 1 - j = 1 := by omega
  rw [this, List.drop_succ_cons, List.drop_zero, List.take_append_drop]
theorem movedAt_back {k j : Nat} {L : List ByteArray} (hk : k < L.length) (hj : j < L.length) : movedAt j k (movedAt k j L) = L := by
  have e1 : (movedAt k j L).take j ++ (movedAt k j L).drop (j + 1) = L.take k ++ L.drop (k + 1) := ins_take (by simp; omega)
  have e2 : (movedAt k j L)[j]?.getD ByteArray.empty = L[k] := by rw [movedAt_at hk hj]; rfl
  have h1 : (L.take k ++ L.drop (k + 1)).take k = L.take k := by
    rw [List.take_append_of_le_length (by simp; omega), List.take_of_length_le (by simp; omega)]
  have h2 : (L.take k ++ L.drop (k + 1)).drop k = L.drop (k + 1) := by
    rw [List.drop_append, List.drop_eq_nil_of_le (by simp; omega)]
    simp [Nat.min_eq_left (Nat.le_of_lt hk)]
  show ((movedAt k j L).take j ++ (movedAt k j L).drop (j + 1)).take k ++ (movedAt k j L)[j]?.getD ByteArray.empty :: ((movedAt k j L).take j ++ (movedAt k j L).drop (j + 1)).drop k = L
  rw [e1, e2, h1, h2, ← List.drop_eq_getElem_cons hk, List.take_append_drop]

theorem alike_self (L : List ByteArray) : alike L L = true := decide_eq_true rfl

set_option maxHeartbeats 3200000 in
set_option maxRecDepth 100000 in
theorem moves_any (n to : Int) (sp : Option Addr) (cap : Nat) (l : List ByteArray) (w : World) (hl : Reads w sp l) (hmax : l.length ≤ maxLen) :
    Calls Try.prog 5 #[.slice sp l.length cap, .int .i64 n, .int .i64 to] w fun e w' => e = .returned (.bool true) ∧ Below w.heap.size w w' := by
  have hmax0 := hmax
  unfold maxLen at hmax
  have hmax : l.length ≤ 9223372036854775807 := by omega
  by_cases hbig : 64 < l.length
  · go_enter Try.func5, Try.ntmps5
    go_wp2_with fail
    refine (works_any w).mono ?_
    rintro e w1 ⟨rfl, o1⟩
    go_wp2_with fail
    refine (new_any 64 w1).mono ?_
    rintro e w2 ⟨rfl, m2, o2⟩
    go_wp2
    go_ret
    exact ⟨rfl, (o1.below (Nat.le_refl _) (fun _ h => h.elim)).trans (o2.below o1.size (fun _ h => h.elim))⟩
  · go_enter Try.func5, Try.ntmps5
    go_wp2_with fail
    refine (works_any w).mono ?_
    rintro e w1 ⟨rfl, o1⟩
    go_wp2_with fail
    refine (new_any _ w1).mono ?_
    rintro e w2 ⟨rfl, m2, o2⟩
    have b2 : Below w.heap.size w w2 := (o1.below (Nat.le_refl _) (fun _ h => h.elim)).trans (o2.below o1.size (fun _ h => h.elim))
    have hs1 := o1.size
    have m2 : IsMesh w2 w1.heap.size 64 [] := m2
    generalize w1.heap.size = m at m2 o2 hs1 ⊢
    have hmw := m2.lt
    clear o1 o2
    go_wp2_with fail
    go_loopw [9] (fun i wr => ∃ k : Nat, k ≤ l.length ∧ i = .int .i64 k ∧ IsMesh wr m 64 (l.take k) ∧ Below w.heap.size w wr) (fun i _ => l.length - (intOf i).toNat)
    case atStart => exact ⟨0, Nat.zero_le _, rfl, by simpa using m2, b2⟩
    case round =>
      obtain ⟨k, hk, rfl, hm, hb⟩ := hrel
      by_cases hlk : k < l.length
      · obtain ⟨b, off, rfl, hbl, hc⟩ := hl (by omega)
        have hck := (hb.cell (p := ⟨b, off + k, none⟩) hbl).trans (hc k hlk)
        clear hc hl
        by_cases hs : 100 < l[k].size
        · go_wp2
          go_ret
          exact ⟨rfl, hb⟩
        · go_wp2_with fail
          refine (send_any m 64 l[k] _ wr hm (by omega)).mono ?_
          rw [sentL_yes (by simp; omega), ← List.take_succ_eq_append_getElem hlk]
          rintro e w3 ⟨rfl, m3, o3⟩
          have hb3 := below_only hb o3 (by have := hb.size; omega) hs1
          go_wp2
          go_roundw
          case rel => exact ⟨k + 1, by omega, by go_num, m3, hb3⟩
          case measure => simp [intOf]; omega
      · have hke : l.take k = l := List.take_of_length_le (by omega)
        rw [hke] at hm
        clear hke
        by_cases hn : 0 ≤ n ∧ n < l.length
        · by_cases ht : 0 ≤ to ∧ to < l.length
          · obtain ⟨hn0, hn1⟩ := hn
            obtain ⟨ht0, ht1⟩ := ht
            obtain ⟨x, rfl⟩ := Int.eq_ofNat_of_zero_le hn0
            obtain ⟨y, rfl⟩ := Int.eq_ofNat_of_zero_le ht0
            have hx : x < l.length := by omega
            have hy : y < l.length := by omega
            have f1 := move_any m 64 x y l wr hm (by omega)
            rw [movedL_yes hx hy, movedB_yes hx hy] at f1
            have F1 := Lib.hid f1
            clear f1
            go_wp2_with fail
            refine F1.out.mono ?_
            rintro e w3 ⟨rfl, m3, o3⟩
            have hb3 := below_only hb o3 (by have := hb.size; omega) hs1
            have f2 := all_any m 64 _ w3 m3 (by rw [length_movedAt hx hy]; omega)
            rw [length_movedAt hx hy] at f2
            have F2 := Lib.hid f2
            clear f2
            go_wp2_with fail
            refine F2.out.mono ?_
            rintro e w4 ⟨g, rfl, hg0, hg1, o4⟩
            have m4 := o4.mesh m3 (fun _ h => h.elim)
            have hb4 := hb3.trans (o4.below (B := w.heap.size) hb3.size (fun _ h => h.elim))
            obtain ⟨b, off, rfl, hbl, hc⟩ := hl (by omega)
            have hck := (hb4.cell (p := ⟨b, off + x, none⟩) hbl).trans (hc x hx)
            have hck2 : w4.cell? ⟨g, y, none⟩ = some (.string l[x]) := by
              rw [cell_arr hg1, List.getElem?_map, movedAt_at hx hy]; rfl
            clear hc hg1
            go_wp2_with fail
            go_quiet (fail)
            have f3 := move_any m 64 y x (movedAt x y l) _ (m4.drewN nq) (by rw [length_movedAt hx hy]; omega)
            rw [movedL_yes (by rw [length_movedAt hx hy]; exact hy) (by rw [length_movedAt hx hy]; exact hx), movedB_yes (by rw [length_movedAt hx hy]; exact hy) (by rw [length_movedAt hx hy]; exact hx), movedAt_back hx hy] at f3
            have F3 := Lib.hid f3
            clear f3
            go_wp2_with fail
            refine F3.out.mono ?_
            rintro e w5 ⟨rfl, m5, o5⟩
            have hb5 := below_only (hb4.drewN nq) o5 (by have := hb4.size; exact this) hs1
            go_wp2_with fail
            refine (all_any m 64 _ w5 m5 (by omega)).mono ?_
            rintro e w6 ⟨g6, rfl, hg60, hg61, o6⟩
            have hb6 := hb5.trans (o6.below (B := w.heap.size) hb5.size (fun _ h => h.elim))
            have hrd := hl.below hb6
            go_wp2_with fail
            refine (same_any _ _ _ _ l l w6 (reads_row hg61) hrd hmax0 hmax0).mono ?_
            rw [alike_self]
            rintro e w7 ⟨rfl, hb7⟩
            go_wp2
            go_ret
            exact ⟨rfl, hb6.trans (hb7.mono hb6.size)⟩
          · have f1 := move_any m 64 n to l wr hm (by omega)
            rw [movedL_no' ht, movedB_no' ht] at f1
            have F1 := Lib.hid f1
            clear f1
            have hn0 := hn.1
            have hn1 := hn.2
            clear hn
            rcases (show to < 0 ∨ (l.length : Int) ≤ to by omega) with ht | ht
            all_goals
              go_wp2_with fail
              refine F1.out.mono ?_
              rintro e w3 ⟨rfl, m3, o3⟩
              have hb3 := below_only hb o3 (by have := hb.size; omega) hs1
              try have hd1 : decide (to < 0) = false := decide_eq_false (by omega)
              go_wp2_with fail
              refine (all_any m 64 _ w3 m3 (by omega)).mono ?_
              rintro e w6 ⟨g6, rfl, hg60, hg61, o6⟩
              have hb6 := hb3.trans (o6.below (B := w.heap.size) hb3.size (fun _ h => h.elim))
              have hrd := hl.below hb6
              go_wp2_with fail
              refine (same_any _ _ _ _ l l w6 (reads_row hg61) hrd hmax0 hmax0).mono ?_
              rw [alike_self]
              rintro e w7 ⟨rfl, hb7⟩
              go_wp2
              go_ret
              exact ⟨rfl, hb6.trans (hb7.mono hb6.size)⟩
        · have f1 := move_any m 64 n to l wr hm (by omega)
          rw [movedL_no hn, movedB_no hn] at f1
          have F1 := Lib.hid f1
          clear f1
          rcases (show n < 0 ∨ (l.length : Int) ≤ n by omega) with ht | ht
          all_goals
            clear hn
            go_wp2_with fail
            refine F1.out.mono ?_
            rintro e w3 ⟨rfl, m3, o3⟩
            have hb3 := below_only hb o3 (by have := hb.size; omega) hs1
            try have hd1 : decide (n < 0) = false := decide_eq_false (by omega)
            go_wp2_with fail
            refine (all_any m 64 _ w3 m3 (by omega)).mono ?_
            rintro e w6 ⟨g6, rfl, hg60, hg61, o6⟩
            have hb6 := hb3.trans (o6.below (B := w.heap.size) hb3.size (fun _ h => h.elim))
            have hrd := hl.below hb6
            go_wp2_with fail
            refine (same_any _ _ _ _ l l w6 (reads_row hg61) hrd hmax0 hmax0).mono ?_
            rw [alike_self]
            rintro e w7 ⟨rfl, hb7⟩
            go_wp2
            go_ret
            exact ⟨rfl, hb6.trans (hb7.mono hb6.size)⟩

end Go.Proofs.Ytkejbpkpdgnodaa
