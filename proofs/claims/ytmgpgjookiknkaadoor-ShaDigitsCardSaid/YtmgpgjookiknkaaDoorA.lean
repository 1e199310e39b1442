/- Turned round to the right: the contracts of right, at each number that is used. -/
import Derived.Test.YtmgpgjookiknkaaDoorProg
import Derived.WalkKit
import Derived.WalkSpells
import Derived.WalkLawsBesides
import Derived.StillTailTactics
import Derived.KernelRfl
import Derived.Lib.Hide
import Derived.BigQuiet
import Derived.Deep.QuietTactic
namespace Go.Proofs.YtmgpgjookiknkaaDoor
open Go.RowKit

/-- A word, turned round to the right by n. -/
def rr (x : Int) (n : Nat) : Int := bits .or .u32 (x * 2 ^ (32 - n) % 4294967296) (x / 2 ^ n)

set_option maxHeartbeats 800000 in
theorem right2 (x : Int) (w : World) : Calls Tryd.prog 19 #[.int .u32 x, .int .i64 2] w fun e w' => e = .returned (.int .u32 (rr x 2)) ∧ w' = w := by
  have hb : bits BinOp.and IntKind.u64 (IntKind.u64.wrap (-2)) 31 = 30 := by kernel_rfl
  go_enter Tryd.func19, Tryd.ntmps19
  go_wp2
  go_ret
  exact ⟨rfl, rfl⟩

set_option maxHeartbeats 800000 in
theorem right6 (x : Int) (w : World) : Calls Tryd.prog 19 #[.int .u32 x, .int .i64 6] w fun e w' => e = .returned (.int .u32 (rr x 6)) ∧ w' = w := by
  have hb : bits BinOp.and IntKind.u64 (IntKind.u64.wrap (-6)) 31 = 26 := by kernel_rfl
  go_enter Tryd.func19, Tryd.ntmps19
  go_wp2
  go_ret
  exact ⟨rfl, rfl⟩

set_option maxHeartbeats 800000 in
theorem right7 (x : Int) (w : World) : Calls Tryd.prog 19 #[.int .u32 x, .int .i64 7] w fun e w' => e = .returned (.int .u32 (rr x 7)) ∧ w' = w := by
  have hb : bits BinOp.and IntKind.u64 (IntKind.u64.wrap (-7)) 31 = 25 := by kernel_rfl
  go_enter Tryd.func19, Tryd.ntmps19
  go_wp2
  go_ret
  exact ⟨rfl, rfl⟩

set_option maxHeartbeats 800000 in
theorem right11 (x : Int) (w : World) : Calls Tryd.prog 19 #[.int .u32 x, .int .i64 11] w fun e w' => e = .returned (.int .u32 (rr x 11)) ∧ w' = w := by
  have hb : bits BinOp.and IntKind.u64 (IntKind.u64.wrap (-11)) 31 = 21 := by kernel_rfl
  go_enter Tryd.func19, Tryd.ntmps19
  go_wp2
  go_ret
  exact ⟨rfl, rfl⟩

set_option maxHeartbeats 800000 in
theorem right13 (x : Int) (w : World) : Calls Tryd.prog 19 #[.int .u32 x, .int .i64 13] w fun e w' => e = .returned (.int .u32 (rr x 13)) ∧ w' = w := by
  have hb : bits BinOp.and IntKind.u64 (IntKind.u64.wrap (-13)) 31 = 19 := by kernel_rfl
  go_enter Tryd.func19, Tryd.ntmps19
  go_wp2
  go_ret
  exact ⟨rfl, rfl⟩

set_option maxHeartbeats 800000 in
theorem right17 (x : Int) (w : World) : Calls Tryd.prog 19 #[.int .u32 x, .int .i64 17] w fun e w' => e = .returned (.int .u32 (rr x 17)) ∧ w' = w := by
  have hb : bits BinOp.and IntKind.u64 (IntKind.u64.wrap (-17)) 31 = 15 := by kernel_rfl
  go_enter Tryd.func19, Tryd.ntmps19
  go_wp2
  go_ret
  exact ⟨rfl, rfl⟩

set_option maxHeartbeats 800000 in
theorem right18 (x : Int) (w : World) : Calls Tryd.prog 19 #[.int .u32 x, .int .i64 18] w fun e w' => e = .returned (.int .u32 (rr x 18)) ∧ w' = w := by
  have hb : bits BinOp.and IntKind.u64 (IntKind.u64.wrap (-18)) 31 = 14 := by kernel_rfl
  go_enter Tryd.func19, Tryd.ntmps19
  go_wp2
  go_ret
  exact ⟨rfl, rfl⟩

set_option maxHeartbeats 800000 in
theorem right19 (x : Int) (w : World) : Calls Tryd.prog 19 #[.int .u32 x, .int .i64 19] w fun e w' => e = .returned (.int .u32 (rr x 19)) ∧ w' = w := by
  have hb : bits BinOp.and IntKind.u64 (IntKind.u64.wrap (-19)) 31 = 13 := by kernel_rfl
  go_enter Tryd.func19, Tryd.ntmps19
  go_wp2
  go_ret
  exact ⟨rfl, rfl⟩

set_option maxHeartbeats 800000 in
theorem right22 (x : Int) (w : World) : Calls Tryd.prog 19 #[.int .u32 x, .int .i64 22] w fun e w' => e = .returned (.int .u32 (rr x 22)) ∧ w' = w := by
  have hb : bits BinOp.and IntKind.u64 (IntKind.u64.wrap (-22)) 31 = 10 := by kernel_rfl
  go_enter Tryd.func19, Tryd.ntmps19
  go_wp2
  go_ret
  exact ⟨rfl, rfl⟩

set_option maxHeartbeats 800000 in
theorem right25 (x : Int) (w : World) : Calls Tryd.prog 19 #[.int .u32 x, .int .i64 25] w fun e w' => e = .returned (.int .u32 (rr x 25)) ∧ w' = w := by
  have hb : bits BinOp.and IntKind.u64 (IntKind.u64.wrap (-25)) 31 = 7 := by kernel_rfl
  go_enter Tryd.func19, Tryd.ntmps19
  go_wp2
  go_ret
  exact ⟨rfl, rfl⟩

end Go.Proofs.YtmgpgjookiknkaaDoor
