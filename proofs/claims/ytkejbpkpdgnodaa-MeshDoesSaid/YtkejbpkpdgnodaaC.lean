/- The contract of at: a closure is called at a place, or nothing happens. -/
import Derived.Test.YtkejbpkpdgnodaaB
namespace Go.Proofs.Ytkejbpkpdgnodaa
open Go.RowKit

set_option maxHeartbeats 800000 in
theorem at_hit (m : Nat) (room : Int) (n : Nat) (L : List ByteArray) (w : World) (F : FuncId) (capt args : Array Value) (R : World → Prop) (hm : IsMesh w m room L) (hn : n < L.length) (hL : L.length ≤ 64)
    (hcf : ∀ args (w : World), (callFunc F args).run Try.prog w = .ok (.enter F args) w)
    (hargs : #[.string L[n]] ++ capt = args) (hF : Calls Try.prog F args w fun e w' => e = .returned (.tuple #[]) ∧ R w') :
    Calls Try.prog 28 #[.pointer (some ⟨m, 0, none⟩), .int .i64 n, .func (.func F) #[] capt] w fun e w' => e = .returned (.bool true) ∧ R w' := by
  obtain ⟨v, hb, ho⟩ := hm
  have c1 : w.cell? ⟨m, 1, none⟩ = some v := by simp [World.cell?, hb]
  obtain ⟨sp, cap, rfl⟩ := own_shape ho
  obtain ⟨g, rfl, hgl, hc⟩ := own_src ho (by omega)
  have HF := Lib.hid hF
  have HA := Lib.hid hargs
  clear hF hargs
  go_enter Try.func28, Try.ntmps28
  go_wp2
  go_loop [7, 13] (fun _ i => ∃ k : Nat, k ≤ n ∧ i = .int .i64 k) (fun _ i => n - (intOf i).toNat)
  case atStart => exact ⟨0, Nat.zero_le _, rfl⟩
  case round =>
    obtain ⟨k, hk, rfl⟩ := hrel
    have hlk : k < L.length := by omega
    have hck : w.cell? ⟨g, k, none⟩ = some (.string L[k]) := hc k _ (by simp [hlk])
    by_cases hkn : k = n
    · subst hkn
      go_wp2_with fail
      rw [HA.out]
      refine HF.out.mono ?_
      rintro e w' ⟨rfl, hr⟩
      go_wp2
      go_ret
      exact ⟨rfl, hr⟩
    · have h1 : ((k : Int) == (n : Int)) = false := by simp; omega
      go_wp2
      go_round
      case rel => exact ⟨k + 1, by omega, by go_num⟩
      case measure => simp [intOf]; omega

set_option maxHeartbeats 800000 in
theorem at_miss (m : Nat) (room : Int) (n : Int) (L : List ByteArray) (w : World) (fv : Value) (hm : IsMesh w m room L) (hn : n < 0 ∨ L.length ≤ n) (hL : L.length ≤ 64) :
    Calls Try.prog 28 #[.pointer (some ⟨m, 0, none⟩), .int .i64 n, fv] w fun e w' => e = .returned (.bool false) ∧ w = w' := by
  obtain ⟨v, hb, ho⟩ := hm
  have c1 : w.cell? ⟨m, 1, none⟩ = some v := by simp [World.cell?, hb]
  obtain ⟨sp, cap, rfl⟩ := own_shape ho
  go_enter Try.func28, Try.ntmps28
  go_wp2
  go_loop [7, 13] (fun _ i => ∃ k : Nat, k ≤ L.length ∧ i = .int .i64 k) (fun _ i => L.length - (intOf i).toNat)
  case atStart => exact ⟨0, Nat.zero_le _, rfl⟩
  case round =>
    obtain ⟨k, hk, rfl⟩ := hrel
    by_cases hlk : k < L.length
    · have h1 : ((k : Int) == n) = false := by simp; omega
      go_wp2
      go_round
      case rel => exact ⟨k + 1, by omega, by go_num⟩
      case measure => simp [intOf]; omega
    · go_wp2
      go_ret
      exact ⟨rfl, rfl⟩

theorem cf18 : ∀ args (w : World), (callFunc 18 args).run Try.prog w = .ok (.enter 18 args) w := fun _ _ => rfl
theorem cf29 : ∀ args (w : World), (callFunc 29 args).run Try.prog w = .ok (.enter 29 args) w := by intro args w; kernel_rfl
theorem cf30 : ∀ args (w : World), (callFunc 30 args).run Try.prog w = .ok (.enter 30 args) w := by intro args w; kernel_rfl
theorem cf32 : ∀ args (w : World), (callFunc 32 args).run Try.prog w = .ok (.enter 32 args) w := by intro args w; kernel_rfl
theorem cf33 : ∀ args (w : World), (callFunc 33 args).run Try.prog w = .ok (.enter 33 args) w := by intro args w; kernel_rfl
theorem cf34 : ∀ args (w : World), (callFunc 34 args).run Try.prog w = .ok (.enter 34 args) w := by intro args w; kernel_rfl

end Go.Proofs.Ytkejbpkpdgnodaa
