/- The contract of works. -/
import Derived.Test.YtgmelphklppcbaaN
namespace Go.Proofs.Ytgmelphklppcbaa
open Go.RowKit

namespace Fixed
def a : ByteArray := ⟨#[97]⟩
def b : ByteArray := ⟨#[98]⟩
def S0 : Ca := newCa 1
def S1 : Ca := offerC S0 a ⟨#[49]⟩
def S2 : Ca := offerC S1 b ⟨#[50]⟩
def S3 : Ca := getC S2 b
def S4 : Ca := offerC S3 b ⟨#[51]⟩
def S5 : Ca := getC S4 b
def S6 : Ca := getC S5 a
def S7 : Ca := forgetC S6 b
theorem e1 : offerB S0 a = true := by kernel_rfl
theorem e2 : offerB S1 b = false := by kernel_rfl
theorem e3 : offerB S3 b = true := by kernel_rfl
theorem e4 : getV S4 b = ⟨#[51]⟩ := by kernel_rfl
theorem e5 : getB S4 b = true := by kernel_rfl
theorem e6 : getB S5 a = false := by kernel_rfl
theorem e7 : often S6.C b = 2 := by kernel_rfl
theorem e8 : S6.C.length = 2 := by kernel_rfl
theorem e9 : (keysOf S6.T).length = 1 := by kernel_rfl
theorem e10 : getB S6 b = true := by kernel_rfl
theorem e11 : getB S7 b = false := by kernel_rfl
theorem ma : a.size ≤ maxLen := by unfold maxLen; decide
theorem mb : b.size ≤ maxLen := by unfold maxLen; decide
theorem o2 : Ok S2 2 := ((Ok.new 1).offer _ _).offer _ _
theorem o4 : Ok S4 4 := (o2.get _).offer _ _
theorem o5 : Ok S5 5 := o4.get _
end Fixed
open Fixed

set_option maxHeartbeats 3200000 in
theorem works_any (w : World) : Calls Try.prog 9 #[] w fun e w' => e = .returned (.bool true) ∧ Only w w' (fun _ => False) := by
  go_enter Try.func9, Try.ntmps9
  go_wp2_with fail
  refine (new_any 1 w).mono ?_
  rintro e w1 ⟨c, rfl, hc, k0, f1⟩
  have fA := f1
  have HL := Lib.hid hc
  clear hc
  generalize hB : w.heap.size = B at k0 fA
  have HB := Lib.hid hB
  clear hB f1
  go_wp2_with fail
  refine (offer_any c B S0 a ⟨#[49]⟩ w1 k0 ma).mono ?_
  rintro e w2 ⟨he, k1, f1⟩
  rw [e1] at he
  subst he
  have fA := fA.trans f1
  clear f1 k0
  go_wp2_with fail
  refine (offer_any c B S1 b ⟨#[50]⟩ w2 k1 mb).mono ?_
  rintro e w3 ⟨he, k2, f1⟩
  rw [e2] at he
  subst he
  have fA := fA.trans f1
  clear f1 k1
  go_wp2_with fail
  refine (get_any c B S2 b w3 k2 mb (by have := o2.few; unfold maxLen; omega) (by have := o2.calls; omega)).mono ?_
  rintro e w4 ⟨rfl, k3, f1⟩
  have fA := fA.trans f1
  clear f1 k2
  go_wp2_with fail
  refine (offer_any c B S3 b ⟨#[51]⟩ w4 k3 mb).mono ?_
  rintro e w5 ⟨he, k4, f1⟩
  rw [e3] at he
  subst he
  have fA := fA.trans f1
  clear f1 k3
  go_wp2_with fail
  refine (get_any c B S4 b w5 k4 mb (by have := o4.few; unfold maxLen; omega) (by have := o4.calls; omega)).mono ?_
  rintro e w6 ⟨he, k5, f1⟩
  rw [e4, e5] at he
  subst he
  have fA := fA.trans f1
  clear f1 k4
  go_wp2_with fail
  refine (get_any c B S5 a w6 k5 ma (by have := o5.few; unfold maxLen; omega) (by have := o5.calls; omega)).mono ?_
  rintro e w7 ⟨he, k6, f1⟩
  rw [e6] at he
  subst he
  have fA := fA.trans f1
  clear f1 k5
  go_wp2_with fail
  refine (often_any c B S6 b w7 k6 mb).mono ?_
  rintro e w8 ⟨he, rfl⟩
  rw [e7] at he
  subst he
  go_wp2_with fail
  refine (counted_any c B S6 w8 k6).mono ?_
  rintro e w9 ⟨he, rfl⟩
  rw [e8] at he
  subst he
  go_wp2_with fail
  refine (keys_any c B S6 w9 k6).mono ?_
  rintro e w10 ⟨v, rfl, hv, o1⟩
  have k6 := k6.keep o1
  have fA := fA.trans (Fr.of_none B o1)
  obtain ⟨sp, cap, rfl, _, _⟩ := hv.shape
  clear hv o1
  rw [e9]
  go_wp2_with fail
  refine (forget_any c B S6 b w10 k6).mono ?_
  rintro e w11 ⟨he, k7, f1⟩
  rw [e10] at he
  subst he
  have fA := fA.trans f1
  clear f1 k6
  go_wp2_with fail
  refine (forget_any c B S7 b w11 k7).mono ?_
  rintro e w12 ⟨he, k8, f1⟩
  rw [e11] at he
  subst he
  have fA := fA.trans f1
  clear f1 k7 k8
  go_wp2
  go_ret
  have hb := HB.out
  subst hb
  exact ⟨rfl, Only.of_below _ (fA.below (Nat.le_refl _))⟩

end Go.Proofs.Ytgmelphklppcbaa
