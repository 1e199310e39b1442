/- The walk of ShaDigits. -/
import Derived.Test.YtmgpgjookiknkaaDoorK
namespace Go.Proofs.YtmgpgjookiknkaaDoor
open Go.RowKit

/-- Between two digits of byte i, whose number is c. -/
def DigR (i c : Nat) (k n : Value) : Prop :=
  (k = .int .i64 (2 * (i : Int)) ∧ n = .int .i64 0) ∨ (k = .int .i64 (2 * (i : Int) + 1) ∧ n = .int .i64 ((c / 16 : Nat) : Int)) ∨ (k = .int .i64 (2 * (i : Int) + 1 + 1) ∧ n = .int .i64 (c : Int))
theorem val_int {a b : Int} (h : a = b) : Value.int .i64 a = .int .i64 b := by rw [h]
theorem dig_low {v : Nat} (h : v < 10) : ((dig v).toNat : Int) = 48 + (v : Int) := by
  have : v = 0 ∨ v = 1 ∨ v = 2 ∨ v = 3 ∨ v = 4 ∨ v = 5 ∨ v = 6 ∨ v = 7 ∨ v = 8 ∨ v = 9 := by omega
  rcases this with rfl | rfl | rfl | rfl | rfl | rfl | rfl | rfl | rfl | rfl <;> rfl
theorem dig_high {v : Nat} (h : ¬ v < 10) (h2 : v < 16) : ((dig v).toNat : Int) = 87 + (v : Int) := by
  have : v = 10 ∨ v = 11 ∨ v = 12 ∨ v = 13 ∨ v = 14 ∨ v = 15 := by omega
  rcases this with rfl | rfl | rfl | rfl | rfl | rfl <;> rfl
theorem hexL_get : ∀ (l : List UInt8) (i : Nat) (h : i < l.length), (hexL l)[2 * i]? = some (dig (l[i].toNat / 16)) ∧ (hexL l)[2 * i + 1]? = some (dig (l[i].toNat % 16))
  | [], i, h => by simp at h
  | c :: l, 0, h => ⟨rfl, rfl⟩
  | c :: l, i + 1, h => by
    have ih := hexL_get l i (by simpa using h)
    have e : hexL (c :: l) = dig (c.toNat / 16) :: dig (c.toNat % 16) :: hexL l := rfl
    rw [e, show 2 * (i + 1) = 2 * i + 1 + 1 by omega]
    exact ih
theorem hx_get (s : ByteArray) (i : Nat) (h : i < s.size) (h0 : 2 * i < (hx s).size) (h1 : 2 * i + 1 < (hx s).size) : (hx s)[2 * i] = dig (s[i].toNat / 16) ∧ (hx s)[2 * i + 1] = dig (s[i].toNat % 16) := by
  obtain ⟨e0, e1⟩ := hexL_get s.data.toList i (by simpa using h)
  have f0 : (hx s)[2 * i]? = (hexL s.data.toList)[2 * i]? := by
    show (hx s)[2 * i]? = _
    rw [getElem?_pos (hx s) (2 * i) h0]
    exact (List.getElem?_eq_getElem (l := hexL s.data.toList) (by have := h0; rw [hx_size] at this; rw [hexL_length, Array.length_toList]; exact this)).symm
  have f1 : (hx s)[2 * i + 1]? = (hexL s.data.toList)[2 * i + 1]? := by
    rw [getElem?_pos (hx s) (2 * i + 1) h1]
    exact (List.getElem?_eq_getElem (l := hexL s.data.toList) (by have := h1; rw [hx_size] at this; rw [hexL_length, Array.length_toList]; exact this)).symm
  rw [getElem?_pos (hx s) (2 * i) h0, e0] at f0
  rw [getElem?_pos (hx s) (2 * i + 1) h1, e1] at f1
  exact ⟨Option.some.inj f0, Option.some.inj f1⟩

set_option maxRecDepth 100000 in
set_option maxHeartbeats 1600000 in
theorem digits_law (s : ByteArray) (w : World) (hL : Laid w) : Calls Tryd.prog 6 #[.string s] w fun e w' => e = .returned (.bool true) ∧ Below w.heap.size w w' := by
  have K := Lib.hid (Lx.refl hL)
  clear hL
  by_cases ha : s.size ≤ 300
  · have i1 : ((s.size : Int) ≤ 300) := by omega
    have hsz := hx_size s
    have hg := hx_get s
    generalize hX : hx s = X at hsz hg
    have hc : ∀ w, Calls Tryd.prog 10 #[.string s] w fun e w' => e = .returned (.string X) ∧ Below w.heap.size w w' := fun w => by
      have h := hex_any s w (by omega)
      rw [hX] at h
      exact h
    have HC := Lib.hid (And.intro hc hg)
    clear hc hX hg
    go_enter Tryd.func6, Tryd.ntmps6
    go_wp2_with (first | ((with_reducible refine (works_any _ K.out.laid).mono ?_); rintro e w' ⟨rfl, b'⟩; replace K := Lib.hid (K.out.step b'); clear b') | ((with_reducible refine (HC.out.1 _).mono ?_); rintro e w' ⟨rfl, b'⟩; replace K := Lib.hid (K.out.step b'); clear b'))
    go_loop [5] (fun i => ∃ k : Nat, k ≤ s.size ∧ i = .int .i64 k) (fun i => s.size - (intOf i).toNat)
    case atStart => exact ⟨0, Nat.zero_le _, rfl⟩
    case round =>
      obtain ⟨i, hi, rfl⟩ := hrel
      by_cases hlt : i < s.size
      · have j0 : (0 : Int) ≤ (i : Int) := by omega
        have j1 : (i : Int) < (s.size : Int) := by omega
        obtain ⟨g0, g1⟩ := HC.out.2 i hlt (by omega) (by omega)
        generalize hc : s[i] = c at g0 g1
        have hc256 : c.toNat < 256 := c.toNat_lt
        go_wp2_with fail
        go_loop [6, 7] (fun n k => DigR i c.toNat k n) (fun _ k => (2 * i + 2) - (intOf k).toNat)
        case atStart => exact .inl ⟨rfl, rfl⟩
        case round =>
          rcases hrel with ⟨rfl, rfl⟩ | ⟨rfl, rfl⟩ | ⟨rfl, rfl⟩
          · have k0 : (0 : Int) ≤ 2 * (i : Int) := by omega
            have k1 : 2 * (i : Int) < (X.size : Int) := by omega
            have k2 : (2 * (i : Int)).toNat = 2 * i := by omega
            by_cases hv : c.toNat / 16 < 10
            · have hd := dig_low hv
              go_wp2_with fail
              go_round
              case rel => exact .inr (.inl ⟨rfl, val_int (by omega)⟩)
              case measure => simp [intOf]; omega
            · have hd := dig_high hv (by omega)
              go_wp2_with fail
              go_round
              case rel => exact .inr (.inl ⟨rfl, val_int (by omega)⟩)
              case measure => simp [intOf]; omega
          · have k0 : (0 : Int) ≤ 2 * (i : Int) + 1 := by omega
            have k1 : 2 * (i : Int) + 1 < (X.size : Int) := by omega
            have k2 : (2 * (i : Int) + 1).toNat = 2 * i + 1 := by omega
            by_cases hv : c.toNat % 16 < 10
            · have hd := dig_low hv
              go_wp2_with fail
              go_round
              case rel => exact .inr (.inr ⟨rfl, val_int (by omega)⟩)
              case measure => simp [intOf]; omega
            · have hd := dig_high hv (by omega)
              go_wp2_with fail
              go_round
              case rel => exact .inr (.inr ⟨rfl, val_int (by omega)⟩)
              case measure => simp [intOf]; omega
          · go_wp2_with fail
            go_round
            case rel => exact ⟨i + 1, by omega, by go_num⟩
            case measure => simp [intOf]; omega
      · go_wp2_with fail
        go_ret
        exact ⟨rfl, K.out.bel⟩
  · have i1 : ¬ ((s.size : Int) ≤ 300) := by omega
    go_enter Tryd.func6, Tryd.ntmps6
    go_wp2_with (first | ((with_reducible refine (works_any _ K.out.laid).mono ?_); rintro e w' ⟨rfl, b'⟩; replace K := Lib.hid (K.out.step b'); clear b'))
    go_ret
    exact ⟨rfl, K.out.bel⟩
end Go.Proofs.YtmgpgjookiknkaaDoor
