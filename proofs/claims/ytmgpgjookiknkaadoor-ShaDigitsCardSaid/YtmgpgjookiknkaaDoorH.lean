/- Two digits of each byte: the contract of Hex. -/
import Derived.Test.YtmgpgjookiknkaaDoorS
namespace Go.Proofs.YtmgpgjookiknkaaDoor
open Go.RowKit

def digs : List UInt8 := [48, 49, 50, 51, 52, 53, 54, 55, 56, 57, 97, 98, 99, 100, 101, 102]
def dig (n : Nat) : UInt8 := digs.getD n 0
def hexL (l : List UInt8) : List UInt8 := l.flatMap fun c => [dig (c.toNat / 16), dig (c.toNat % 16)]
/-- The digits of a text. -/
def hx (s : ByteArray) : ByteArray := ⟨(hexL s.data.toList).toArray⟩
theorem hexL_append (a b : List UInt8) : hexL (a ++ b) = hexL a ++ hexL b := List.flatMap_append
theorem hexL_length (l : List UInt8) : (hexL l).length = 2 * l.length := by
  induction l with
  | nil => rfl
  | cons c r ih => simp only [hexL, List.flatMap_cons, List.length_append, List.length_cons, List.length_nil] at ih ⊢; omega
theorem run_dig (n : Nat) (h : n < 16) (w : World) : (Instr.index 9 (.string { data := #[48, 49, 50, 51, 52, 53, 54, 55, 56, 57, 97, 98, 99, 100, 101, 102] }) (.int .u8 (n : Int))).run Tryd.prog w = .ok (.int .u8 ((dig n).toNat : Int)) w := by
  have hn : n = 0 ∨ n = 1 ∨ n = 2 ∨ n = 3 ∨ n = 4 ∨ n = 5 ∨ n = 6 ∨ n = 7 ∨ n = 8 ∨ n = 9 ∨ n = 10 ∨ n = 11 ∨ n = 12 ∨ n = 13 ∨ n = 14 ∨ n = 15 := by omega
  rcases hn with rfl | rfl | rfl | rfl | rfl | rfl | rfl | rfl | rfl | rfl | rfl | rfl | rfl | rfl | rfl | rfl <;> (show _ = _; kernel_rfl)
theorem u8_low (a : Nat) (h : a < 256) : bits .and .u8 (a : Int) 15 = ((a % 16 : Nat) : Int) := by
  unfold bits
  rw [show IntKind.u8.bits = 8 from rfl, BitVec.ofInt_natCast, show (15 : Int) = ((15 : Nat) : Int) from rfl, BitVec.ofInt_natCast]
  simp only [BitVec.toNat_and, BitVec.toNat_ofNat]
  rw [Nat.mod_eq_of_lt (by omega), show 15 % 2 ^ 8 = 2 ^ 4 - 1 from rfl, Nat.and_two_pow_sub_one_eq_mod]
  unfold IntKind.wrap
  simp [IntKind.bits, IntKind.signed]
  omega
theorem take_snoc {s : ByteArray} {k : Nat} (h : k < s.size) : s.data.toList.take (k + 1) = s.data.toList.take k ++ [s[k]] := by
  rw [List.take_succ_eq_append_getElem (by simpa using h)]; rfl

theorem built0 (w : World) : Lib.IsBuilder 35 5 w.heap.size w.heap.size [] (w.alloc (.cells #[.pointer none, .slice none 0 0] 35)) :=
  .inl ⟨Nat.le_refl _, .slice none 0 0, heap_alloc_new _ _, World.ownsRow_nil _ _ _ _, by simp [Value.ownBlock]⟩

set_option maxRecDepth 100000 in
set_option maxHeartbeats 800000 in
theorem hex_any (s : ByteArray) (w : World) (hs : s.size ≤ 1000000) :
    Calls Tryd.prog 10 #[.string s] w fun e w' => e = .returned (.string (hx s)) ∧ Below w.heap.size w w' := by
  go_enter Tryd.func10, Tryd.ntmps10
  go_wp2_with fail
  have H0 := Lib.hid (And.intro (built0 w) ((Below.refl w.heap.size w).alloc (Nat.le_refl _) (.cells #[.pointer none, .slice none 0 0] 35)))
  generalize hg : w.heap.size = B at H0 ⊢
  have HG := Lib.hid hg
  clear hg
  go_loopw [7] (fun i wr => ∃ (k : Nat), k ≤ s.size ∧ i = .int .i64 k ∧ Hid (Lib.IsBuilder 35 5 B B (Lib.byteCells (hexL (s.data.toList.take k))) wr) ∧ Hid (Below B w wr)) (fun i _ => s.size - (intOf i).toNat)
  case atStart => exact ⟨0, Nat.zero_le _, rfl, H0.out.1, H0.out.2⟩
  case round =>
    obtain ⟨k, hk, rfl, hb, hbl⟩ := hrel
    by_cases hlk : k < s.size
    · have j0 : (0 : Int) ≤ (k : Int) := by omega
      have j1 : (k : Int) < (s.size : Int) := by omega
      have hts := take_snoc hlk
      generalize hc : s[k] = c at hts
      have hcl : c.toNat < 256 := c.toNat_lt
      have d2 : bits .and .u8 ((c.toNat : Nat) : Int) 15 = ((c.toNat : Nat) : Int) % 16 := (u8_low c.toNat hcl).trans (by omega)
      have r1 := run_dig (c.toNat / 16) (by omega)
      have r2 := run_dig (c.toNat % 16) (by omega)
      rw [show ((c.toNat / 16 : Nat) : Int) = ((c.toNat : Nat) : Int) / 16 by omega] at r1
      rw [show ((c.toNat % 16 : Nat) : Int) = ((c.toNat : Nat) : Int) % 16 by omega] at r2
      have HT := Lib.hid (And.intro hts hc)
      clear hts
      obtain ⟨p, hp⟩ : ∃ p, p = dig (c.toNat / 16) := ⟨_, rfl⟩
      obtain ⟨q, hq⟩ : ∃ q, q = dig (c.toNat % 16) := ⟨_, rfl⟩
      rw [← hp] at r1
      rw [← hq] at r2
      have HPQ := Lib.hid (And.intro hp hq)
      clear hp hq
      have hl0 : (hexL (s.data.toList.take k)).length ≤ 2000000 := by rw [hexL_length, List.length_take]; omega
      have H1 := byte_any B B _ ((p.toNat : Nat) : Int) wr hb.out (by rw [Lib.byteCells_length]; omega) (by have := hbl.out.size; have := HG.out; omega)
      have HH1 := Lib.hid H1
      clear H1
      have HL0 := Lib.hid hl0
      clear hl0
      go_wp2_with (first | ((with_reducible refine HH1.out.mono ?_); rintro e w1 ⟨rfl, h1, hb1⟩; have H2 := Lib.hid (byte_any B B _ ((q.toNat : Nat) : Int) w1 (.inr h1) (by rw [List.length_append, Lib.byteCells_length]; have := HL0.out; simp; omega) (by have := hbl.out.size; have := HG.out; have := hb1.size; omega)); have HB1 := Lib.hid hb1; clear h1 hb1) | ((with_reducible refine H2.out.mono ?_); rintro e w2 ⟨rfl, h2, hb2⟩; have H3 := Lib.hid (And.intro h2 hb2); clear h2 hb2))
      go_roundw
      case rel =>
        refine ⟨k + 1, by omega, by go_num, ?_, (hbl.out.trans HB1.out).trans H3.out.2⟩
        have e : Lib.byteCells (hexL (s.data.toList.take k)) ++ [Value.int .u8 ((p.toNat : Nat) : Int)] ++ [Value.int .u8 ((q.toNat : Nat) : Int)] = Lib.byteCells (hexL (s.data.toList.take (k + 1))) := by
          rw [HT.out.1, hexL_append, Lib.byteCells_append, List.append_assoc, HPQ.out.1, HPQ.out.2]
          rfl
        have h := H3.out.1
        rw [e] at h
        exact .inr h
      case measure => simp [intOf]; omega
    · have hk2 : k = s.size := by omega
      subst hk2
      have ht : s.data.toList.take s.size = s.data.toList := List.take_of_length_le (by simp [← ByteArray.size_data])
      have h := hb.out
      rw [ht] at h
      have HS := Lib.hid (Tryd.Builder_String_any B B _ wr h (by have := hbl.out.size; have := HG.out; omega))
      clear h ht
      go_wp2_with (first | ((with_reducible refine HS.out.mono ?_); rintro e w1 ⟨rfl, hb1⟩))
      go_ret
      exact ⟨rfl, by have := HG.out; subst this; exact hbl.out.trans hb1⟩
end Go.Proofs.YtmgpgjookiknkaaDoor
