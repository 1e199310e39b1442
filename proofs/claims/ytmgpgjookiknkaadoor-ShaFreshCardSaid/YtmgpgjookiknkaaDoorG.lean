/- Two texts collide: the contract of Collide. -/
import Derived.Test.YtmgpgjookiknkaaDoorF
namespace Go.Proofs.YtmgpgjookiknkaaDoor
open Go.RowKit

/-- The hash of a text, as a text. -/
def sh (a : ByteArray) : ByteArray := tx (Sh.of (bl a))
theorem str_eq (a b : ByteArray) : a.toList = b.toList ↔ a = b := by
  rw [Lib.toList_data, Lib.toList_data]
  exact ⟨WideShapes.bytes_inj, fun h => by rw [h]⟩
theorem flat_one (a : ByteArray) : flat [a] = bl a := by simp [flat]
theorem flat_two (a b : ByteArray) : flat [a, b] = bl a ++ bl b := by simp [flat]
/-- Of one text. -/
theorem of_one (a : ByteArray) (w : World) (hL : Laid w) (ha : a.size ≤ 1000000) :
    Calls Tryd.prog 9 #[.slice (some ⟨w.heap.size, 0, none⟩) 1 1] (w.alloc (.cells #[.string a] 9)) fun e w' => e = .returned (.string (sh a)) ∧ Below w.heap.size w w' := by
  have hb : Below w.heap.size w (w.alloc (.cells #[.string a] 9)) := (Below.refl _ _).alloc (Nat.le_refl _) _
  have h := of_any w.heap.size 0 1 [a] (w.alloc (.cells #[.string a] 9)) (hL.below hb hL.1) (fun j hj => by
    have hj0 : j = 0 := by simp at hj; omega
    subst hj0
    exact cell_arr (xs := [Value.string a]) (heap_alloc_last w _) 0) (by simp) (by simp) (by rw [flat_one, bl_length]; omega)
  rw [flat_one] at h
  exact h.mono fun e w' ⟨h1, h2⟩ => ⟨h1, hb.trans (h2.mono (by simp))⟩
/-- Of two texts. -/
theorem of_two (a b : ByteArray) (w : World) (hL : Laid w) (ha : a.size ≤ 1000000) (hb : b.size ≤ 1000000) :
    Calls Tryd.prog 9 #[.slice (some ⟨w.heap.size, 0, none⟩) 2 2] (w.alloc (.cells #[.string a, .string b] 9)) fun e w' => e = .returned (.string (tx (Sh.of (bl a ++ bl b)))) ∧ Below w.heap.size w w' := by
  have hbb : Below w.heap.size w (w.alloc (.cells #[.string a, .string b] 9)) := (Below.refl _ _).alloc (Nat.le_refl _) _
  have h := of_any w.heap.size 0 2 [a, b] (w.alloc (.cells #[.string a, .string b] 9)) (hL.below hbb hL.1) (fun j hj => by
    have hj0 : j = 0 ∨ j = 1 := by simp at hj; omega
    rcases hj0 with rfl | rfl
    · exact cell_arr (xs := [Value.string a, Value.string b]) (heap_alloc_last w _) 0
    · exact cell_arr (xs := [Value.string a, Value.string b]) (heap_alloc_last w _) 1) (by simp) (by simp) (by rw [flat_two, List.length_append, bl_length, bl_length]; omega)
  rw [flat_two] at h
  exact h.mono fun e w' ⟨h1, h2⟩ => ⟨h1, hbb.trans (h2.mono (by simp))⟩

/-- Collide's answer. -/
def colB (a b : ByteArray) : Bool := !(a.toList == b.toList) && (sh a).toList == (sh b).toList

set_option maxRecDepth 100000 in
set_option maxHeartbeats 800000 in
theorem collide_any (a b : ByteArray) (w : World) (hL : Laid w) (ha : a.size ≤ 1000000) (hb : b.size ≤ 1000000) :
    Calls Tryd.prog 8 #[.string a, .string b] w fun e w' => e = .returned (.bool (colB a b)) ∧ Below w.heap.size w w' := by
  by_cases hab : a = b
  · subst hab
    have hc : colB a a = false := by simp [colB]
    rw [hc]
    go_enter Tryd.func8, Tryd.ntmps8
    go_wp2
    go_ret
    exact ⟨rfl, Below.refl _ _⟩
  · have hne : ¬ a.toList = b.toList := fun e => hab ((str_eq a b).1 e)
    have HL := Lib.hid hL
    clear hL
    go_enter Tryd.func8, Tryd.ntmps8
    go_wp2_with (first | ((with_reducible refine (of_one a w HL.out ha).mono ?_); rintro e w1 ⟨rfl, hb1⟩; have HB1 := Lib.hid (And.intro hb1 (HL.out.below hb1 HL.out.1)); clear hb1) | ((with_reducible refine (of_one b _ HB1.out.2 hb).mono ?_); rintro e w2 ⟨rfl, hb2⟩; have HB2 := Lib.hid hb2; clear hb2))
    go_ret
    exact ⟨rfl, HB1.out.1.trans (HB2.out.mono HB1.out.1.size)⟩
end Go.Proofs.YtmgpgjookiknkaaDoor
