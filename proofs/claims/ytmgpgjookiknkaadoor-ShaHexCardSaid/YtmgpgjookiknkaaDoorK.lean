/- The walk of ShaHex. -/
import Derived.Test.YtmgpgjookiknkaaDoorI
namespace Go.Proofs.YtmgpgjookiknkaaDoor
open Go.RowKit

/-- The table is there, and nothing older has turned. -/
structure Lx (w w1 : World) : Prop where
  laid : Laid w1
  bel : Below w.heap.size w w1
theorem Lx.refl {w : World} (h : Laid w) : Lx w w := ⟨h, Below.refl _ _⟩
theorem Lx.step {w w1 w2 : World} (h : Lx w w1) (b : Below w1.heap.size w1 w2) : Lx w w2 := ⟨h.laid.below b h.laid.1, h.bel.trans (b.mono h.bel.size)⟩

theorem hx_size (a : ByteArray) : (hx a).size = 2 * a.size := by
  show (hexL a.data.toList).toArray.size = _
  rw [List.size_toArray, hexL_length, Array.length_toList]; rfl
theorem hx_append (a b : ByteArray) : hx (a ++ b) = hx a ++ hx b := by
  apply WideShapes.bytes_inj
  unfold hx
  rw [ByteArray.data_append, Array.toList_append, hexL_append, ByteArray.data_append, Array.toList_append]
theorem dig_inj : ∀ a b : Fin 16, dig a.val = dig b.val → a = b := by decide
theorem pair_inj {a b : UInt8} (h1 : dig (a.toNat / 16) = dig (b.toNat / 16)) (h2 : dig (a.toNat % 16) = dig (b.toNat % 16)) : a = b := by
  have ha := a.toNat_lt
  have hb := b.toNat_lt
  have e1 := congrArg Fin.val (dig_inj ⟨a.toNat / 16, by omega⟩ ⟨b.toNat / 16, by omega⟩ h1)
  have e2 := congrArg Fin.val (dig_inj ⟨a.toNat % 16, by omega⟩ ⟨b.toNat % 16, by omega⟩ h2)
  simp only at e1 e2
  exact UInt8.toNat_inj.1 (by omega)
theorem hexL_inj : ∀ (l m : List UInt8), hexL l = hexL m → l = m
  | [], [], _ => rfl
  | [], b :: m, h => by simp [hexL] at h
  | a :: l, [], h => by simp [hexL] at h
  | a :: l, b :: m, h => by
    have h' : dig (a.toNat / 16) :: dig (a.toNat % 16) :: hexL l = dig (b.toNat / 16) :: dig (b.toNat % 16) :: hexL m := h
    simp only [List.cons.injEq] at h'
    rw [pair_inj h'.1 h'.2.1, hexL_inj l m h'.2.2]
theorem hx_inj {a b : ByteArray} (h : hx a = hx b) : a = b := by
  apply WideShapes.bytes_inj
  apply hexL_inj
  have := congrArg (fun s : ByteArray => s.data.toList) h
  exact this

set_option maxRecDepth 100000 in
set_option maxHeartbeats 1600000 in
theorem hex_law (a b : ByteArray) (w : World) (hL : Laid w) : Calls Tryd.prog 4 #[.string a, .string b] w fun e w' => e = .returned (.bool true) ∧ Below w.heap.size w w' := by
  have K := Lib.hid (Lx.refl hL)
  clear hL
  by_cases ha : a.size ≤ 300
  · by_cases hb : b.size ≤ 300
    · have i1 : ((a.size : Int) ≤ 300) := by omega
      have i2 : ((b.size : Int) ≤ 300) := by omega
      have hsz := hx_size a
      have hszb := hx_size b
      have hab := hx_append a b
      have heq : ((hx a).toList == (hx b).toList) = (a.toList == b.toList) := by
        rw [Bool.eq_iff_iff, beq_iff_eq, beq_iff_eq, str_eq, str_eq]
        exact ⟨hx_inj, fun h => by rw [h]⟩
      have hsab : (a ++ b).size ≤ 1000000 := by rw [ByteArray.size_append]; omega
      have hc : ∀ w, Calls Tryd.prog 10 #[.string (a ++ b)] w fun e w' => e = .returned (.string (hx a ++ hx b)) ∧ Below w.heap.size w w' := fun w => by
        have h := hex_any (a ++ b) w hsab
        rw [hab] at h
        exact h
      have HC := Lib.hid hc
      clear hab hc hsab
      go_enter Tryd.func4, Tryd.ntmps4
      go_wp2_with (first | ((with_reducible refine (works_any _ K.out.laid).mono ?_); rintro e w' ⟨rfl, b'⟩; replace K := Lib.hid (K.out.step b'); clear b') | ((with_reducible refine (HC.out _).mono ?_); rintro e w' ⟨rfl, b'⟩; replace K := Lib.hid (K.out.step b'); clear b') | ((with_reducible refine (hex_any a _ (by omega)).mono ?_); rintro e w' ⟨rfl, b'⟩; replace K := Lib.hid (K.out.step b'); clear b') | ((with_reducible refine (hex_any b _ (by omega)).mono ?_); rintro e w' ⟨rfl, b'⟩; replace K := Lib.hid (K.out.step b'); clear b'))
      go_ret
      exact ⟨rfl, K.out.bel⟩
    · have i2 : ¬ ((b.size : Int) ≤ 300) := by omega
      have i1 : ((a.size : Int) ≤ 300) := by omega
      go_enter Tryd.func4, Tryd.ntmps4
      go_wp2_with (first | ((with_reducible refine (works_any _ K.out.laid).mono ?_); rintro e w' ⟨rfl, b'⟩; replace K := Lib.hid (K.out.step b'); clear b'))
      go_ret
      exact ⟨rfl, K.out.bel⟩
  · have i1 : ¬ ((a.size : Int) ≤ 300) := by omega
    go_enter Tryd.func4, Tryd.ntmps4
    go_wp2_with (first | ((with_reducible refine (works_any _ K.out.laid).mono ?_); rintro e w' ⟨rfl, b'⟩; replace K := Lib.hid (K.out.step b'); clear b'))
    go_ret
    exact ⟨rfl, K.out.bel⟩
end Go.Proofs.YtmgpgjookiknkaaDoor
