/- The contract of Same. -/
import Derived.Test.YtkejbpkpdgnodaaOrder
import Derived.Lib.Strings
namespace Go.Proofs.Ytkejbpkpdgnodaa
open Go.RowKit

theorem text_eq {a b : ByteArray} : (a.toList == b.toList) = true ↔ a = b := by
  rw [beq_iff_eq, Lib.toList_data, Lib.toList_data]
  exact ⟨WideShapes.bytes_inj, fun h => by rw [h]⟩

theorem take_eq_succ {A B : List ByteArray} {k : Nat} (ha : k < A.length) (hb : k < B.length) (h : A.take k = B.take k) (e : A[k] = B[k]) : A.take (k + 1) = B.take (k + 1) := by
  rw [List.take_succ_eq_append_getElem ha, List.take_succ_eq_append_getElem hb, h, e]

theorem _root_.Go.RowKit.Below.drewN {B : Nat} {a w : World} (h : Below B a w) (n : Nat) : Below B a (w.drewN n) := ⟨h.os, h.tape, h.output, h.size, h.block⟩

/-- The world after some draws. -/
def Drawn (w w' : World) : Prop := ∃ n, w' = w.drewN n
theorem Drawn.refl (w : World) : Drawn w w := ⟨0, rfl⟩
theorem Drawn.drewN {w w' : World} (h : Drawn w w') (n : Nat) : Drawn w (w'.drewN n) := by
  obtain ⟨m, rfl⟩ := h
  exact ⟨m + n, World.drewN_drewN _ _ _⟩
theorem Drawn.cell {w w' : World} (h : Drawn w w') (a : Addr) : w'.cell? a = w.cell? a := by
  obtain ⟨m, rfl⟩ := h
  rfl
theorem Drawn.below {w w' : World} (h : Drawn w w') (B : Nat) : Below B w w' := by
  obtain ⟨m, rfl⟩ := h
  exact ⟨rfl, rfl, rfl, Nat.le_refl _, fun _ _ => rfl⟩

/-- Are two rows the same? -/
def alike (A B : List ByteArray) : Bool := decide (A = B)

set_option maxHeartbeats 800000 in
theorem same_q (sa sb : Option Addr) (ca cb : Nat) (A B : List ByteArray) (w : World) (hA : Reads w sa A) (hB : Reads w sb B) (ma : A.length ≤ maxLen) (mb : B.length ≤ maxLen) :
    Calls Try.prog 14 #[.slice sa A.length ca, .slice sb B.length cb] w fun e w' => e = .returned (.bool (alike A B)) ∧ Drawn w w' := by
  unfold maxLen at ma mb
  by_cases hlen : A.length = B.length
  · have h1 : ((A.length : Int) != (B.length : Int)) = false := by simp; omega
    have hm : A.length ≤ 9223372036854775807 := by omega
    have Hlen := Lib.hid hlen
    clear hlen
    go_enter Try.func14, Try.ntmps14
    go_wp2
    go_loopw [5] (fun i wr => ∃ k : Nat, k ≤ A.length ∧ i = .int .i64 k ∧ Hid (A.take k = B.take k) ∧ Drawn w wr) (fun i _ => A.length - (intOf i).toNat)
    case atStart => exact ⟨0, Nat.zero_le _, rfl, by rw [Hid]; simp, Drawn.refl _⟩
    case round =>
      obtain ⟨k, hk, rfl, heq, hb⟩ := hrel
      by_cases hlk : k < A.length
      · have hlk2 : k < B.length := by have := Hlen.out; omega
        obtain ⟨b, off, rfl, hbl, hc⟩ := hA (by omega)
        obtain ⟨b2, off2, rfl, hbl2, hc2⟩ := hB (by omega)
        have hck := (hb.cell _).trans (hc k hlk)
        have hck2 := (hb.cell _).trans (hc2 k hlk2)
        clear hc hc2 hA hB
        have i1 : (0 : Int) ≤ (k : Int) := by omega
        have i2 : (k : Int) < (A.length : Int) := by omega
        have i3 : (k : Int) < (B.length : Int) := by omega
        by_cases he : A[k] = B[k]
        · have t1 : (A[k].toList == B[k].toList) = true := text_eq.2 he
          have t2 : (A[k].toList != B[k].toList) = false := by rw [bne, t1]; rfl
          have HE := Lib.hid he
          clear he
          go_wp2_with fail
          go_quiet (fail)
          go_wp2
          go_roundw
          case rel => exact ⟨k + 1, by omega, by go_num, take_eq_succ hlk hlk2 heq.out HE.out, hb.drewN _⟩
          case measure => simp [intOf]; omega
        · have t1 : (A[k].toList == B[k].toList) = false := by rw [Bool.eq_false_iff]; exact fun h => he (text_eq.1 h)
          have t2 : (A[k].toList != B[k].toList) = true := by rw [bne, t1]; rfl
          have HE : Hid (alike A B = false) := by
            refine decide_eq_false fun h => ?_
            subst h
            exact he rfl
          clear he
          go_wp2_with fail
          go_quiet (fail)
          go_wp2
          go_ret
          exact ⟨by rw [HE.out]; rfl, hb.drewN _⟩
      · have HE : Hid (alike A B = true) := by
          refine decide_eq_true ?_
          have := heq.out
          rw [List.take_of_length_le (by omega), List.take_of_length_le (by have := Hlen.out; omega)] at this
          exact this
        go_wp2
        go_ret
        exact ⟨by rw [HE.out]; rfl, hb⟩
  · have h1 : ((A.length : Int) != (B.length : Int)) = true := by simp; omega
    have HE : Hid (alike A B = false) := decide_eq_false fun h => hlen (by rw [h])
    clear hlen
    go_enter Try.func14, Try.ntmps14
    go_wp2
    go_ret
    exact ⟨by rw [HE.out]; rfl, Drawn.refl _⟩

theorem same_any (sa sb : Option Addr) (ca cb : Nat) (A B : List ByteArray) (w : World) (hA : Reads w sa A) (hB : Reads w sb B) (ma : A.length ≤ maxLen) (mb : B.length ≤ maxLen) :
    Calls Try.prog 14 #[.slice sa A.length ca, .slice sb B.length cb] w fun e w' => e = .returned (.bool (alike A B)) ∧ Below w.heap.size w w' :=
  (same_q sa sb ca cb A B w hA hB ma mb).mono fun e w' ⟨h1, h2⟩ => ⟨h1, h2.below _⟩

/-- What All has laid reads as the row. -/
theorem reads_row {w : World} {g : Nat} {L : List ByteArray} (h : w.heap[g]? = some (.cells (L.map Value.string).toArray 9 (0, 0))) : Reads w (some ⟨g, 0, none⟩) L :=
  fun _ => ⟨g, 0, rfl, lt_of_block h, fun j hj => by rw [cell_arr h]; simp [hj]⟩

end Go.Proofs.Ytkejbpkpdgnodaa
