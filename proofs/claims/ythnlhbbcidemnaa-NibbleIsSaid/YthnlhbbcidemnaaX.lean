/- Nibbles: the walk of NibbleCommon. -/
import Derived.Test.YthnlhbbcidemnaaW
namespace Go.Proofs.Ythnlhbbcidemnaa
open Go.RowKit

theorem _root_.Go.RowKit.Below.drewN {B : Nat} {a w : World} (h : Below B a w) (n : Nat) : Below B a (w.drewN n) := ⟨h.os, h.tape, h.output, h.size, h.block⟩

set_option maxHeartbeats 3200000 in
set_option maxRecDepth 100000 in
theorem commons_any (a b : ByteArray) (w : World) : Calls Try.prog 5 #[.string a, .string b] w fun e w' => e = .returned (.bool true) ∧ Below w.heap.size w w' := by
  by_cases hs : 200 < a.size ∨ 200 < b.size
  · rcases hs with hs | hs
    · go_enter Try.func5, Try.ntmps5
      go_wp2_with fail
      refine (works_any w).mono ?_
      rintro e w1 ⟨rfl, b1⟩
      go_wp2
      go_ret
      exact ⟨rfl, b1⟩
    · go_enter Try.func5, Try.ntmps5
      go_wp2_with fail
      refine (works_any w).mono ?_
      rintro e w1 ⟨rfl, b1⟩
      go_wp2
      all_goals
        go_ret
        exact ⟨rfl, b1⟩
  · have ha : a.size ≤ 200 := by omega
    have hb : b.size ≤ 200 := by omega
    clear hs
    obtain ⟨n, hn⟩ : ∃ n, n = commonL a.data.toList b.data.toList := ⟨_, rfl⟩
    have hle := commonL_le a.data.toList b.data.toList
    have htk := commonL_take a.data.toList b.data.toList
    have hst := commonL_stop a.data.toList b.data.toList
    rw [← hn, show a.data.toList.length = a.size by simp, show b.data.toList.length = b.size by simp] at hle
    rw [← hn] at htk
    rw [← hn, show a.data.toList.length = a.size by simp, show b.data.toList.length = b.size by simp] at hst
    obtain ⟨hna, hnb⟩ := hle
    have hex : ((a.extract 0 n).toList != (b.extract 0 n).toList) = false := by
      have h0 : (a.extract 0 n).toList = (b.extract 0 n).toList := by
        rw [Lib.toList_data, Lib.toList_data, Lib.extract_data, Lib.extract_data]
        simpa using htk
      rw [h0]; simp
    have hex2 : ((a.extract 0 n).toList == (b.extract 0 n).toList) = true := by
      rw [bne, Bool.not_eq_false'] at hex
      exact hex
    have d0 : decide ((n : Int) < 0) = false := decide_eq_false (by omega)
    have d1 : decide (a.size < n) = false := decide_eq_false (by omega)
    have d3 : decide (b.size < n) = false := decide_eq_false (by omega)
    have d4 : decide ((a.size : Int) < (n : Int)) = false := decide_eq_false (by omega)
    have d5 : decide ((b.size : Int) < (n : Int)) = false := decide_eq_false (by omega)
    have hc1 : ∀ W, Calls Try.prog 15 #[.string a, .string b] W fun e w' => e = .returned (.int .i64 n) ∧ Drawn W w' := by
      intro W
      have h := common_any a b W (by omega) (by omega)
      rw [← hn] at h
      exact h
    have f2 : (((commonL b.data.toList a.data.toList : Nat) : Int) == (n : Int)) = true := by rw [commonL_swap, ← hn, beq_iff_eq]
    have f3 : (((commonL a.data.toList a.data.toList : Nat) : Int) == (a.size : Int)) = true := by rw [commonL_self, beq_iff_eq]; simp
    have HC1 := Lib.hid hc1
    have HST := Lib.hid hst
    clear hc1 htk hn hst
    have i1 : (n : Int) ≤ (a.size : Int) := by omega
    have i2 : (n : Int) ≤ (b.size : Int) := by omega
    go_enter Try.func5, Try.ntmps5
    go_wp2_with fail
    refine (works_any w).mono ?_
    rintro e w1 ⟨rfl, b1⟩
    go_wp2_with fail
    refine (HC1.out w1).mono ?_
    rintro e w2 ⟨rfl, d2⟩
    go_wp2_with fail
    go_quiet (fail)
    go_wp2_with fail
    clear hex hex2 d0 d1 d3 d4 d5
    have b3 : Below w.heap.size w (w2.drewN nq) := (b1.trans (d2.below _)).drewN _
    generalize w2.drewN nq = w3 at b3 ⊢
    rcases HST.out with h | h | ⟨x, y, h1, h2, h3⟩
    · have e1 : ((n : Int) == (a.size : Int)) = true := by rw [beq_iff_eq]; omega
      clear h
      go_quiet ((go_at_call 15; exact Calls.quiet_of (common_any _ _ _ (by omega) (by omega))))
      go_wp2
      go_ret
      exact ⟨rfl, b3.drewN _⟩
    · by_cases hq : n = a.size
      · have e1 : ((n : Int) == (a.size : Int)) = true := by rw [beq_iff_eq]; omega
        clear h hq
        go_quiet ((go_at_call 15; exact Calls.quiet_of (common_any _ _ _ (by omega) (by omega))))
        go_wp2
        go_ret
        exact ⟨rfl, b3.drewN _⟩
      · have e1 : ((n : Int) == (a.size : Int)) = false := by rw [beq_eq_false_iff_ne]; omega
        have e2 : ((n : Int) == (b.size : Int)) = true := by rw [beq_iff_eq]; omega
        clear h hq
        go_quiet ((go_at_call 15; exact Calls.quiet_of (common_any _ _ _ (by omega) (by omega))))
        go_wp2
        go_ret
        exact ⟨rfl, b3.drewN _⟩
    · obtain ⟨l1, q1⟩ := List.getElem?_eq_some_iff.1 h1
      obtain ⟨l2, q2⟩ := List.getElem?_eq_some_iff.1 h2
      have k1 : n < a.size := by simpa using l1
      have k2 : n < b.size := by simpa using l2
      rw [at_list k1] at q1
      rw [at_list k2] at q2
      have j1 : (n : Int) < (a.size : Int) := by omega
      have j2 : (n : Int) < (b.size : Int) := by omega
      have j0 : (0 : Int) ≤ (n : Int) := by omega
      have e1 : ((n : Int) == (a.size : Int)) = false := by rw [beq_eq_false_iff_ne]; omega
      have e2 : ((n : Int) == (b.size : Int)) = false := by rw [beq_eq_false_iff_ne]; omega
      have e3 : (((a[n].toNat : Nat) : Int) != ((b[n].toNat : Nat) : Int)) = true := by
        rw [bne_iff_ne, q1, q2]
        exact fun h => h3 (UInt8.toNat_inj.1 (by omega))
      clear h1 h2 h3 l1 l2 q1 q2
      go_quiet ((go_at_call 15; exact Calls.quiet_of (common_any _ _ _ (by omega) (by omega))))
      go_wp2
      go_ret
      exact ⟨rfl, b3.drewN _⟩

end Go.Proofs.Ythnlhbbcidemnaa
