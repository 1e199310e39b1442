/- The walk of ShaCollide. -/
import Derived.Test.YtmgpgjookiknkaaDoorI
namespace Go.Proofs.YtmgpgjookiknkaaDoor
open Go.RowKit

/-- The table is there, and nothing older has turned. -/
structure Lw (w w1 : World) : Prop where
  laid : Laid w1
  bel : Below w.heap.size w w1
theorem Lw.refl {w : World} (h : Laid w) : Lw w w := ⟨h, Below.refl _ _⟩
theorem Lw.step {w w1 w2 : World} (h : Lw w w1) (b : Below w1.heap.size w1 w2) : Lw w w2 := ⟨h.laid.below b h.laid.1, h.bel.trans (b.mono h.bel.size)⟩

set_option maxRecDepth 100000 in
set_option maxHeartbeats 1600000 in
theorem collide_law (a b : ByteArray) (w : World) (hL : Laid w) : Calls Tryd.prog 3 #[.string a, .string b] w fun e w' => e = .returned (.bool true) ∧ Below w.heap.size w w' := by
  have K := Lib.hid (Lw.refl hL)
  clear hL
  by_cases ha : a.size ≤ 300
  · by_cases hb : b.size ≤ 300
    · have i1 : ((a.size : Int) ≤ 300) := by omega
      have i2 : ((b.size : Int) ≤ 300) := by omega
      by_cases hab : a = b
      · subst hab
        have hcol : ∀ w, Laid w → Calls Tryd.prog 8 #[.string a, .string a] w fun e w' => e = .returned (.bool false) ∧ Below w.heap.size w w' := fun w hL => by
          have h := collide_any a a w hL (by omega) (by omega)
          rw [col_self] at h
          exact h
        have HC := Lib.hid hcol
        clear hcol
        go_enter Tryd.func3, Tryd.ntmps3
        go_wp2_with (first | ((with_reducible refine (works_any _ K.out.laid).mono ?_); rintro e w' ⟨rfl, b'⟩; replace K := Lib.hid (K.out.step b'); clear b') | ((with_reducible refine (HC.out _ K.out.laid).mono ?_); rintro e w' ⟨rfl, b'⟩; replace K := Lib.hid (K.out.step b'); clear b'))
        go_ret
        exact ⟨rfl, K.out.bel⟩
      · have hne : ¬ a.toList = b.toList := fun e => hab ((str_eq a b).1 e)
        have hne2 : (a.toList == b.toList) = false := by simpa using hne
        obtain ⟨c, hc⟩ : ∃ c, ((sh a).toList == (sh b).toList) = c := ⟨_, rfl⟩
        have hcab : colB a b = c := by unfold colB; rw [hc]; simp [hne]
        have hcba : colB b a = c := by
          unfold colB
          rw [BEq.comm, BEq.comm (a := (sh b).toList), hc]
          simp [hne]
        have hcol : ∀ w, Laid w → Calls Tryd.prog 8 #[.string a, .string b] w fun e w' => e = .returned (.bool c) ∧ Below w.heap.size w w' := fun w hL => by
          have h := collide_any a b w hL (by omega) (by omega)
          rw [hcab] at h
          exact h
        have hcol2 : ∀ w, Laid w → Calls Tryd.prog 8 #[.string b, .string a] w fun e w' => e = .returned (.bool c) ∧ Below w.heap.size w w' := fun w hL => by
          have h := collide_any b a w hL (by omega) (by omega)
          rw [hcba] at h
          exact h
        have HC := Lib.hid hcol
        have HC2 := Lib.hid hcol2
        clear hcol hcol2 hcab hcba
        cases c
        all_goals
          go_enter Tryd.func3, Tryd.ntmps3
          go_wp2_with (first | ((with_reducible refine (works_any _ K.out.laid).mono ?_); rintro e w' ⟨rfl, b'⟩; replace K := Lib.hid (K.out.step b'); clear b') | ((with_reducible refine (HC.out _ K.out.laid).mono ?_); rintro e w' ⟨rfl, b'⟩; replace K := Lib.hid (K.out.step b'); clear b') | ((with_reducible refine (HC2.out _ K.out.laid).mono ?_); rintro e w' ⟨rfl, b'⟩; replace K := Lib.hid (K.out.step b'); clear b') | ((with_reducible refine (of_one a _ K.out.laid (by omega)).mono ?_); rintro e w' ⟨rfl, b'⟩; replace K := Lib.hid (K.out.step b'); clear b') | ((with_reducible refine (of_one b _ K.out.laid (by omega)).mono ?_); rintro e w' ⟨rfl, b'⟩; replace K := Lib.hid (K.out.step b'); clear b'))

          go_ret
          exact ⟨rfl, K.out.bel⟩
    · have i2 : ¬ ((b.size : Int) ≤ 300) := by omega
      have i1 : ((a.size : Int) ≤ 300) := by omega
      go_enter Tryd.func3, Tryd.ntmps3
      go_wp2_with (first | ((with_reducible refine (works_any _ K.out.laid).mono ?_); rintro e w' ⟨rfl, b'⟩; replace K := Lib.hid (K.out.step b'); clear b'))
      go_ret
      exact ⟨rfl, K.out.bel⟩
  · have i1 : ¬ ((a.size : Int) ≤ 300) := by omega
    go_enter Tryd.func3, Tryd.ntmps3
    go_wp2_with (first | ((with_reducible refine (works_any _ K.out.laid).mono ?_); rintro e w' ⟨rfl, b'⟩; replace K := Lib.hid (K.out.step b'); clear b'))
    go_ret
    exact ⟨rfl, K.out.bel⟩
end Go.Proofs.YtmgpgjookiknkaaDoor
