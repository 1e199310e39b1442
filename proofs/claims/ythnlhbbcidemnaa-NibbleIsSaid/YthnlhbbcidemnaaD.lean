/- Nibbles: the contracts of Key, flag, Put, and Get at the document's example. -/
import Derived.Test.YthnlhbbcidemnaaC
namespace Go.Proofs.Ythnlhbbcidemnaa
open Go.RowKit

def keyB (l : List UInt8) : Bool := decide (l.length % 2 = 0) && validL l
def keyL (l : List UInt8) : List UInt8 := if keyB l = true then pairL l else []
theorem keyL_yes {l : List UInt8} (h : keyB l = true) : keyL l = pairL l := if_pos h
theorem keyL_no {l : List UInt8} (h : keyB l = false) : keyL l = [] := by unfold keyL; rw [h]; rfl
theorem text_nil : text [] = ⟨#[]⟩ := rfl

set_option maxHeartbeats 800000 in
theorem key_any (p : ByteArray) (w : World) (hs : p.size ≤ 1000) : Calls Try.prog 9 #[.string p] w fun e w' => e = .returned (.tuple #[.string (text (keyL p.data.toList)), .bool (keyB p.data.toList)]) ∧ Below w.heap.size w w' := by
  have hpz : p.data.toList.length = p.size := by simp
  by_cases he : p.size % 2 = 0
  · have t1 : ((p.size : Int) % 2 != 0) = false := by simp; omega
    have kb : keyB p.data.toList = validL p.data.toList := by unfold keyB; rw [hpz, decide_eq_true he, Bool.true_and]
    have hv := valid_any p w hs
    cases hval : validL p.data.toList with
    | true =>
      rw [hval] at hv kb
      have HV := Lib.hid hv
      have KB := Lib.hid kb
      clear hv kb hval he hpz
      go_enter Try.func9, Try.ntmps9
      go_wp2_with fail
      refine HV.out.mono ?_
      rintro e w1 ⟨rfl, rfl⟩
      go_wp2_with fail
      refine (pairs_any p w1 hs).mono ?_
      rintro e w2 ⟨rfl, hb⟩
      go_wp2
      go_ret2
      rw [KB.out, keyL_yes KB.out]
      exact ⟨rfl, hb⟩
    | false =>
      rw [hval] at hv kb
      have HV := Lib.hid hv
      have KB := Lib.hid kb
      clear hv kb hval he hpz
      go_enter Try.func9, Try.ntmps9
      go_wp2_with fail
      refine HV.out.mono ?_
      rintro e w1 ⟨rfl, rfl⟩
      go_wp2
      go_ret2
      rw [KB.out, keyL_no KB.out]
      exact ⟨rfl, Below.refl _ _⟩
  · have t1 : ((p.size : Int) % 2 != 0) = true := by simp; omega
    have kb : keyB p.data.toList = false := by unfold keyB; rw [hpz, decide_eq_false he, Bool.false_and]
    have KB := Lib.hid kb
    clear kb he hpz
    go_enter Try.func9, Try.ntmps9
    go_wp2
    go_ret2
    rw [KB.out, keyL_no KB.out]
    exact ⟨rfl, Below.refl _ _⟩

def flagC (leaf odd : Bool) : UInt8 := (if odd then 1 else 0) + (if leaf then 2 else 0)
set_option maxHeartbeats 800000 in
theorem flag_any (leaf odd : Bool) (w : World) : Calls Try.prog 21 #[.bool leaf, .bool odd] w fun e w' => e = .returned (.int .u8 (((flagC leaf odd).toNat : Nat) : Int)) ∧ w' = w := by
  cases leaf <;> cases odd
  all_goals
    go_enter Try.func21, Try.ntmps21
    go_wp2
    go_ret
    exact ⟨rfl, rfl⟩

theorem conv_block {w : World} {g : Nat} {l : List UInt8} (h : w.heap[g]? = some (.cells (bytesV l).toArray 5 (0, 0))) (hm : l.length ≤ 1000) :
    (convert 31 9 (.slice (some ⟨g, 0, none⟩) l.length l.length)).run Try.prog w = .ok (.string (text l)) w :=
  conv_bytes (all_own h (length_bytesV l) (by unfold maxLen; omega))

theorem size_text (l : List UInt8) : (text l).size = l.length := by simp [text, ByteArray.size]
theorem cat_data (a b : ByteArray) : (a ++ b).data.toList = a.data.toList ++ b.data.toList := by
  rw [ByteArray.data_append, Array.toList_append]

def oddB (l : List UInt8) : Bool := decide (l.length % 2 = 1)
set_option maxHeartbeats 800000 in
theorem odd_any (b : Nat) (p : ByteArray) (w : World) (hs : p.size ≤ 1000) (hb : w.heap[b]? = some (.cells #[.string p] 9 (0, 0))) :
    Calls Try.prog 20 #[.pointer (some ⟨b, 0, none⟩)] w fun e w' => e = .returned (.bool (oddB p.data.toList)) ∧ w' = w := by
  have hpz : p.data.toList.length = p.size := by simp
  have c0 := cell_of_one hb
  by_cases he : p.size % 2 = 1
  · have t1 : ((p.size : Int) % 2 == 1) = true := by simp; omega
    have HO : Hid (oddB p.data.toList = true) := by unfold oddB; rw [Hid, hpz, decide_eq_true he]
    clear he hpz
    go_enter Try.func20, Try.ntmps20
    go_wp2
    go_ret
    rw [HO.out]
    exact ⟨rfl, rfl⟩
  · have t1 : ((p.size : Int) % 2 == 1) = false := by simp; omega
    have HO : Hid (oddB p.data.toList = false) := by unfold oddB; rw [Hid, hpz, decide_eq_false he]
    clear he hpz
    go_enter Try.func20, Try.ntmps20
    go_wp2
    go_ret
    rw [HO.out]
    exact ⟨rfl, rfl⟩

def frontL (l : List UInt8) (leaf : Bool) : List UInt8 := flagC leaf (oddB l) :: (if oddB l = true then [] else [0])
def putL (l : List UInt8) (leaf : Bool) : List UInt8 := if validL l = true then pairL (frontL l leaf ++ l) else []

set_option maxHeartbeats 1600000 in
theorem put_any (p : ByteArray) (leaf : Bool) (w : World) (hs : p.size ≤ 500) : Calls Try.prog 17 #[.string p, .bool leaf] w fun e w' => e = .returned (.tuple #[.string (text (putL p.data.toList leaf)), .bool (validL p.data.toList)]) ∧ Below w.heap.size w w' := by
  have hB0 : Below w.heap.size w (w.alloc (.cells #[.string p] 9)) := (Below.refl _ _).alloc (Nat.le_refl _) _
  have hbx : (w.alloc (.cells #[.string p] 9)).heap[w.heap.size]? = some (.cells #[.string p] 9 (0, 0)) := heap_alloc_new _ _
  have hmf : ∀ (fn : Fn) (first cap : Array Value) (w : World), (Instr.makeFunc fn first cap).run Try.prog w = .ok (.func fn first cap) w := fun _ _ _ _ => rfl
  have hv := valid_any p (w.alloc (.cells #[.string p] 9)) (by omega)
  cases hval : validL p.data.toList with
  | false =>
    rw [hval] at hv
    have HV := Lib.hid hv
    have H0 := Lib.hid hval
    clear hv hval
    go_enter Try.func17, Try.ntmps17
    go_wp2_with fail
    refine HV.out.mono ?_
    rintro e w1 ⟨rfl, rfl⟩
    go_wp2
    go_ret2
    unfold putL
    rw [H0.out]
    exact ⟨rfl, hB0⟩
  | true =>
    rw [hval] at hv
    have HV := Lib.hid hv
    have H0 := Lib.hid hval
    have ho := odd_any w.heap.size p (w.alloc (.cells #[.string p] 9)) (by omega) hbx
    have HO := Lib.hid ho
    clear hv hval ho
    go_enter Try.func17, Try.ntmps17
    go_wp2_with fail
    refine HV.out.mono ?_
    rintro e w1 ⟨rfl, rfl⟩
    go_wp2_with fail
    refine HO.out.mono ?_
    rintro e w1 ⟨rfl, rfl⟩
    go_wp2_with fail
    refine (flag_any leaf (oddB p.data.toList) _).mono ?_
    rintro e w1 ⟨rfl, rfl⟩
    generalize hfc : flagC leaf (oddB p.data.toList) = fc
    have HF := Lib.hid hfc
    clear hfc
    have hcv : (convert 31 9 (.slice (some ⟨w.heap.size + 1, 0, none⟩) 1 1)).run Try.prog ((w.alloc (.cells #[.string p] 9)).alloc (.cells #[.int .u8 ((fc.toNat : Nat) : Int)] 5)) = .ok (.string (text [fc])) ((w.alloc (.cells #[.string p] 9)).alloc (.cells #[.int .u8 ((fc.toNat : Nat) : Int)] 5)) := by
      have := conv_block (w := (w.alloc (.cells #[.string p] 9)).alloc (.cells #[.int .u8 ((fc.toNat : Nat) : Int)] 5)) (g := w.heap.size + 1) (l := [fc]) (by rw [show w.heap.size + 1 = (w.alloc (.cells #[.string p] 9)).heap.size by simp, heap_alloc_new]; rfl) (by simp)
      exact this
    have hbx2 : ((w.alloc (.cells #[.string p] 9)).alloc (.cells #[.int .u8 ((fc.toNat : Nat) : Int)] 5)).heap[w.heap.size]? = some (.cells #[.string p] 9 (0, 0)) := (Below.heap_alloc _ _ _ (by simp)).trans hbx
    have hB2 : Below w.heap.size w ((w.alloc (.cells #[.string p] 9)).alloc (.cells #[.int .u8 ((fc.toNat : Nat) : Int)] 5)) := hB0.alloc (by simp) _
    have HO2 := Lib.hid (odd_any w.heap.size p _ (by omega) hbx2)
    go_wp2_with fail
    refine HO2.out.mono ?_
    rintro e w1 ⟨rfl, rfl⟩
    have c0 := cell_of_one hbx2
    clear hcv HO2
    generalize ((w.alloc (.cells #[.string p] 9)).alloc (.cells #[.int .u8 ((fc.toNat : Nat) : Int)] 5)) = w1 at hB2 c0 hbx2 ⊢
    generalize hob : oddB p.data.toList = ob at HF
    have HOB := Lib.hid hob
    clear hob
    have hs1 : (text [fc]).size ≤ 1 := by rw [size_text]; simp
    cases ob with
    | true =>
      have hq : Hid (pairL (text [fc] ++ p).data.toList = putL p.data.toList leaf) := by
        rw [Hid, cat_data, text_data]
        unfold putL frontL
        rw [H0.out, HOB.out, HF.out]
        rfl
      go_wp2_with fail
      refine (pairs_any (text [fc] ++ p) w1 (by rw [ByteArray.size_append]; omega)).mono ?_
      rw [hq.out]
      rintro e w2 ⟨rfl, hb⟩
      go_wp2
      go_ret2
      exact ⟨rfl, hB2.trans (hb.mono hB2.size)⟩
    | false =>
      have hs3 : (text [fc] ++ (⟨#[0]⟩ : ByteArray) ++ p).size ≤ 1000 := by
        rw [ByteArray.size_append, ByteArray.size_append, show (⟨#[0]⟩ : ByteArray).size = 1 from rfl]
        omega
      have hq : Hid (pairL (text [fc] ++ (⟨#[0]⟩ : ByteArray) ++ p).data.toList = putL p.data.toList leaf) := by
        rw [Hid, cat_data, cat_data, text_data]
        unfold putL frontL
        rw [H0.out, HOB.out, HF.out]
        rfl
      go_wp2_with fail
      refine (pairs_any (text [fc] ++ (⟨#[0]⟩ : ByteArray) ++ p) w1 hs3).mono ?_
      rw [hq.out]
      rintro e w2 ⟨rfl, hb⟩
      go_wp2
      go_ret2
      exact ⟨rfl, hB2.trans (hb.mono hB2.size)⟩

end Go.Proofs.Ythnlhbbcidemnaa
