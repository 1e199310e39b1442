/- The walk of MeshOrder. -/
import Derived.Test.YtkejbpkpdgnodaaH
import Derived.Deep.LoopGhost
namespace Go.Proofs.Ytkejbpkpdgnodaa
open Go.RowKit

/-- What is at sp reads as the texts L. -/
def Reads (w : World) (sp : Option Addr) (L : List ByteArray) : Prop :=
  0 < L.length → ∃ b off, sp = some ⟨b, off, none⟩ ∧ b < w.heap.size ∧ ∀ j (h : j < L.length), w.cell? ⟨b, off + j, none⟩ = some (.string L[j])

theorem cell_only {w w' : World} {S : Nat → Prop} {a : Addr} (h : Only w w' S) (hb : a.block < w.heap.size) (hs : ¬ S a.block) : w'.cell? a = w.cell? a := World.cell?_of_block (h.block _ hb hs)

theorem Reads.below {w w' : World} {sp : Option Addr} {L : List ByteArray} (h : Reads w sp L) (hb : Below w.heap.size w w') : Reads w' sp L := by
  intro h0
  obtain ⟨b, off, h1, h2, h3⟩ := h h0
  exact ⟨b, off, h1, Nat.lt_of_lt_of_le h2 hb.size, fun j hj => (hb.cell (p := ⟨b, off + j, none⟩) h2).trans (h3 j hj)⟩

theorem take_min_succ {l : List ByteArray} {k r : Nat} (hk : k < l.length) (h : k < r) : sentL r (l.take (min k r)) l[k] = l.take (min (k + 1) r) := by
  rw [sentL_yes (by simp; omega), Nat.min_eq_left (by omega), Nat.min_eq_left (by omega), List.take_succ_eq_append_getElem hk]
theorem take_min_same {l : List ByteArray} {k r : Nat} {s : ByteArray} (hk : k < l.length) (h : ¬ k < r) : sentL r (l.take (min k r)) s = l.take (min (k + 1) r) := by
  rw [sentL_no (by simp; omega), Nat.min_eq_right (by omega), Nat.min_eq_right (by omega)]
theorem sentB_min {l : List ByteArray} {k r : Nat} (hk : k ≤ l.length) : sentB r (l.take (min k r)) = decide (k < r) := by
  unfold sentB
  congr 1
  simp
  omega
theorem below_only {w w' w'' : World} {m B : Nat} (h : Below B w w') (ho : Only w' w'' (· = m)) (hB : B ≤ w'.heap.size) (hm : B ≤ m) : Below B w w'' :=
  h.trans (ho.below hB (fun i hi => by omega))

theorem take_drop_first {l : List ByteArray} {j r : Nat} (hj : j < l.length) (h : j < r) : takenS 0 ((l.take (min l.length r)).drop j) = l[j] ∧ takenL 0 ((l.take (min l.length r)).drop j) = (l.take (min l.length r)).drop (j + 1) ∧ there 0 ((l.take (min l.length r)).drop j) = true := by
  have h0 : 0 < ((l.take (min l.length r)).drop j).length := by simp; omega
  refine ⟨?_, ?_, there_true (by omega) (by omega)⟩
  · have := takenS_yes h0
    rw [Int.natCast_zero] at this
    rw [this]
    simp
  · have := takenL_yes h0
    rw [Int.natCast_zero] at this
    rw [this]
    simp
theorem take_drop_none {l : List ByteArray} {j r : Nat} (h : ¬ (j < l.length ∧ j < r)) : there 0 ((l.take (min l.length r)).drop j) = false :=
  there_false (by simp; omega)

set_option maxHeartbeats 3200000 in
set_option maxRecDepth 100000 in
theorem order_any (room : Int) (r : Nat) (sp : Option Addr) (cap : Nat) (l : List ByteArray) (w : World) (hl : Reads w sp l) (hmax : l.length ≤ maxLen)
    (hr : (room < 1 ∧ r ≤ 1 ∨ 1 ≤ room ∧ room ≤ 64 ∧ room = r ∨ 64 < room ∧ 64 ≤ r) ∧ 1 ≤ r ∧ r ≤ 64) :
    Calls Try.prog 6 #[.int .i64 room, .slice sp l.length cap] w fun e w' => e = .returned (.bool true) ∧ Below w.heap.size w w' := by
  obtain ⟨hr, hr0, hr1⟩ := hr
  have hrr : min (max room 1) 64 = (r : Int) := by omega
  unfold maxLen at hmax
  have hmax : l.length ≤ 9223372036854775807 := by omega
  by_cases hbig : 100 < l.length
  · clear hr
    go_enter Try.func6, Try.ntmps6
    go_wp2_with fail
    refine (works_any w).mono ?_
    rintro e w1 ⟨rfl, o1⟩
    go_wp2_with fail
    refine (new_any room w1).mono ?_
    rintro e w2 ⟨rfl, m2, o2⟩
    go_wp2
    go_ret
    exact ⟨rfl, (o1.below (Nat.le_refl _) (fun _ h => h.elim)).trans (o2.below o1.size (fun _ h => h.elim))⟩
  · rcases hr with ⟨hr2, hr3⟩ | ⟨hr2, hr3, rfl⟩ | ⟨hr2, hr3⟩
    all_goals
      go_enter Try.func6, Try.ntmps6
      go_wp2_with fail
      refine (works_any w).mono ?_
      rintro e w1 ⟨rfl, o1⟩
      go_wp2_with fail
      refine (new_any _ w1).mono ?_
      rintro e w2 ⟨rfl, m2, o2⟩
      have b2 : Below w.heap.size w w2 := (o1.below (Nat.le_refl _) (fun _ h => h.elim)).trans (o2.below o1.size (fun _ h => h.elim))
      have hs1 := o1.size
      rw [hrr] at m2
      generalize w1.heap.size = m at m2 o2 hs1 ⊢
      have hmw := m2.lt
      clear o1 o2 hrr
      go_wp2_with fail
      go_loopw [7] (fun i wr => ∃ k : Nat, k ≤ l.length ∧ i = .int .i64 k ∧ IsMesh wr m r (l.take (min k r)) ∧ Below w.heap.size w wr) (fun i _ => l.length - (intOf i).toNat)
      case atStart => exact ⟨0, Nat.zero_le _, rfl, by simpa using m2, b2⟩
      case round =>
        obtain ⟨k, hk, rfl, hm, hb⟩ := hrel
        by_cases hlk : k < l.length
        · obtain ⟨b, off, rfl, hbl, hc⟩ := hl.below hb (by omega)
          have hck := hc k hlk
          clear hc hl
          by_cases hs : 100 < l[k].size
          · go_wp2
            go_ret
            exact ⟨rfl, hb⟩
          · go_wp2_with fail
            refine (send_any m r l[k] _ wr hm (by omega)).mono ?_
            rw [sentB_min (by omega)]
            rintro e w3 ⟨rfl, m3, o3⟩
            have hb3 := below_only hb o3 (by have := hb.size; omega) hs1
            by_cases hkr : k < r
            · rw [take_min_succ hlk hkr] at m3
              rw [decide_eq_true hkr]
              try have hd1 : decide ((k : Int) < 1) = true := decide_eq_true (by omega)
              try have hd2 : decide ((k : Int) < 64) = true := decide_eq_true (by omega)
              have hd3 : decide ((k : Int) < (r : Int)) = true := decide_eq_true (by omega)
              go_wp2
              go_roundw
              case rel => exact ⟨k + 1, by omega, by go_num, m3, hb3⟩
              case measure => simp [intOf]; omega
            · rw [take_min_same hlk hkr] at m3
              rw [decide_eq_false hkr]
              try have hd1 : decide ((k : Int) < 1) = false := decide_eq_false (by omega)
              try have hd2 : decide ((k : Int) < 64) = false := decide_eq_false (by omega)
              have hd3 : decide ((k : Int) < (r : Int)) = false := decide_eq_false (by omega)
              go_wp2
              go_roundw
              case rel => exact ⟨k + 1, by omega, by go_num, m3, hb3⟩
              case measure => simp [intOf]; omega
        · have hke : k = l.length := by omega
          rw [hke] at hm
          have HKE := Lib.hid hke
          clear hke
          go_wp2_with fail
          go_loopw [9] (fun i wr2 => ∃ j : Nat, j ≤ l.length ∧ j ≤ r ∧ i = .int .i64 j ∧ IsMesh wr2 m r ((l.take (min l.length r)).drop j) ∧ Below w.heap.size w wr2) (fun i _ => l.length - (intOf i).toNat)
          case atStart => exact ⟨0, Nat.zero_le _, Nat.zero_le _, rfl, hm, hb⟩
          case round =>
            obtain ⟨j, hj, hjr, rfl, hm2, hb2⟩ := hrel
            have hlen : ((l.take (min l.length r)).drop j).length ≤ 64 := by simp; omega
            have Hlen := Lib.hid hlen
            clear hlen
            by_cases hjl : j < l.length
            · by_cases hjr2 : j < r
              · obtain ⟨b, off, rfl, hbl, hc⟩ := hl (by omega)
                have hck := (hb2.cell (p := ⟨b, off + j, none⟩) hbl).trans (hc j hjl)
                have HC := Lib.hid (hc j hjl)
                clear hc hl
                try have hd1 : decide ((j : Int) < 1) = true := decide_eq_true (by omega)
                try have hd2 : decide ((j : Int) < 64) = true := decide_eq_true (by omega)
                have hd3 : decide ((j : Int) < (r : Int)) = true := decide_eq_true (by omega)
                have ht := take_any m r 0 _ wr hm2 Hlen.out
                rw [(take_drop_first hjl hjr2).1, (take_drop_first hjl hjr2).2.1, (take_drop_first hjl hjr2).2.2] at ht
                have Ht := Lib.hid ht
                clear ht
                go_wp2_with fail
                refine Ht.out.mono ?_
                rintro e w3 ⟨rfl, m3, o3⟩
                have hb3 := below_only hb2 o3 (by have := hb2.size; omega) hs1
                have hck3 : w3.cell? ⟨b, off + j, none⟩ = some (.string l[j]) := (hb3.cell (p := ⟨b, off + j, none⟩) hbl).trans HC.out
                go_wp2
                go_roundw
                case rel => exact ⟨j + 1, by omega, by omega, by go_num, m3, hb3⟩
                case measure => simp [intOf]; omega
              · have hmore : 0 < l.length := by omega
                try have hd1 : decide ((j : Int) < 1) = false := decide_eq_false (by omega)
                try have hd2 : decide ((j : Int) < 64) = false := decide_eq_false (by omega)
                have hd3 : decide ((j : Int) < (r : Int)) = false := decide_eq_false (by omega)
                have ht := take_any m r 0 _ wr hm2 Hlen.out
                rw [take_drop_none (by omega)] at ht
                have Ht := Lib.hid ht
                clear ht
                go_wp2_with fail
                refine Ht.out.mono ?_
                rintro e w3 ⟨rfl, m3, o3⟩
                have hb3 := below_only hb2 o3 (by have := hb2.size; omega) hs1
                go_wp2
                go_ret
                exact ⟨rfl, hb3⟩
            · have ht := take_any m r 0 _ wr hm2 Hlen.out
              rw [take_drop_none (by omega)] at ht
              have Ht := Lib.hid ht
              clear ht
              have hd4 : decide ((j : Int) < (l.length : Int)) = false := decide_eq_false (by omega)
              go_wp2_with fail
              refine Ht.out.mono ?_
              rintro e w3 ⟨rfl, m3, o3⟩
              have hb3 := below_only hb2 o3 (by have := hb2.size; omega) hs1
              go_wp2
              go_ret
              exact ⟨rfl, hb3⟩

end Go.Proofs.Ytkejbpkpdgnodaa
