/- The contract of works: the document's example. -/
import Derived.Test.YtkejbpkpdgnodaaG
namespace Go.Proofs.Ytkejbpkpdgnodaa
open Go.RowKit

set_option maxHeartbeats 1600000 in
set_option maxRecDepth 100000 in
theorem works_any (w : World) : Calls Try.prog 8 #[] w fun e w' => e = .returned (.bool true) ∧ Only w w' (fun _ => False) := by
  go_enter Try.func8, Try.ntmps8
  go_wp2_with fail
  refine (new_any 2 w).mono ?_
  rintro e w1 ⟨rfl, m1, o1⟩
  go_wp2_with fail
  have s1 : Calls Try.prog 18 #[.pointer (some ⟨w.heap.size, 0, none⟩), .string ⟨#[97]⟩] w1 fun e w' => e = .returned (.bool true) ∧ IsMesh w' w.heap.size 2 [⟨#[97]⟩] ∧ Only w1 w' (· = w.heap.size) := send_any _ _ _ _ w1 m1 (by decide)
  refine s1.mono ?_
  clear s1
  rintro e w2 ⟨rfl, m2, o2⟩
  go_wp2_with fail
  have s1 : Calls Try.prog 18 #[.pointer (some ⟨w.heap.size, 0, none⟩), .string ⟨#[98]⟩] w2 fun e w' => e = .returned (.bool true) ∧ IsMesh w' w.heap.size 2 [⟨#[97]⟩, ⟨#[98]⟩] ∧ Only w2 w' (· = w.heap.size) := send_any _ _ _ _ w2 m2 (by decide)
  refine s1.mono ?_
  clear s1
  rintro e w3 ⟨rfl, m3, o3⟩
  go_wp2_with fail
  have s1 : Calls Try.prog 18 #[.pointer (some ⟨w.heap.size, 0, none⟩), .string ⟨#[99]⟩] w3 fun e w' => e = .returned (.bool false) ∧ IsMesh w' w.heap.size 2 [⟨#[97]⟩, ⟨#[98]⟩] ∧ Only w3 w' (· = w.heap.size) := send_any _ _ _ _ w3 m3 (by decide)
  refine s1.mono ?_
  clear s1
  rintro e w4 ⟨rfl, m4, o4⟩
  go_wp2_with fail
  have s1 : Calls Try.prog 20 #[.pointer (some ⟨w.heap.size, 0, none⟩), .int .i64 1] w4 fun e w' => e = .returned (.tuple #[.string ⟨#[98]⟩, .bool true]) ∧ IsMesh w' w.heap.size 2 [⟨#[97]⟩] ∧ Only w4 w' (· = w.heap.size) := take_any _ _ _ _ w4 m4 (by decide)
  refine s1.mono ?_
  clear s1
  rintro e w5 ⟨rfl, m5, o5⟩
  go_wp2_with fail
  have s1 : Calls Try.prog 21 #[.pointer (some ⟨w.heap.size, 0, none⟩), .int .i64 0] w5 fun e w' => e = .returned (.bool true) ∧ IsMesh w' w.heap.size 2 [⟨#[97]⟩, ⟨#[97]⟩] ∧ Only w5 w' (· = w.heap.size) := double_any _ _ _ _ w5 m5 (by decide) (by decide)
  refine s1.mono ?_
  clear s1
  rintro e w6 ⟨rfl, m6, o6⟩
  go_wp2_with fail
  have s1 : Calls Try.prog 22 #[.pointer (some ⟨w.heap.size, 0, none⟩), .int .i64 0] w6 fun e w' => e = .returned (.bool true) ∧ IsMesh w' w.heap.size 2 [⟨#[97]⟩] ∧ Only w6 w' (· = w.heap.size) := drop_any _ _ _ _ w6 m6 (by decide)
  refine s1.mono ?_
  clear s1
  rintro e w7 ⟨rfl, m7, o7⟩
  go_wp2_with fail
  have s1 : Calls Try.prog 19 #[.pointer (some ⟨w.heap.size, 0, none⟩), .int .i64 0, .int .i64 0] w7 fun e w' => e = .returned (.bool true) ∧ IsMesh w' w.heap.size 2 [⟨#[97]⟩] ∧ Only w7 w' (· = w.heap.size) := move_any _ _ _ _ _ w7 m7 (by decide)
  refine s1.mono ?_
  clear s1
  rintro e w8 ⟨rfl, m8, o8⟩
  go_wp2_with fail
  have s1 : Calls Try.prog 20 #[.pointer (some ⟨w.heap.size, 0, none⟩), .int .i64 5] w8 fun e w' => e = .returned (.tuple #[.string ByteArray.empty, .bool false]) ∧ IsMesh w' w.heap.size 2 [⟨#[97]⟩] ∧ Only w8 w' (· = w.heap.size) := take_any _ _ _ _ w8 m8 (by decide)
  refine s1.mono ?_
  clear s1
  rintro e w9 ⟨rfl, m9, o9⟩
  go_wp2_with fail
  have s1 : Calls Try.prog 16 #[.pointer (some ⟨w.heap.size, 0, none⟩), .string ⟨#[97]⟩] w9 fun e w' => e = .returned (.int .i64 1) ∧ w9 = w' := by
    have := count_any _ _ ⟨#[97]⟩ _ w9 m9 (by decide)
    have e1 : cnt ⟨#[97]⟩ [⟨#[97]⟩] = 1 := by simp [cnt]
    rw [e1] at this
    exact this
  refine s1.mono ?_
  clear s1
  rintro e w10 ⟨rfl, rfl⟩
  go_wp2_with fail
  have s1 : Calls Try.prog 15 #[.pointer (some ⟨w.heap.size, 0, none⟩)] w9 fun e w' => ∃ g, e = .returned (.slice (some ⟨g, 0, none⟩) 1 1) ∧ w9.heap.size ≤ g ∧ _ ∧ Only w9 w' (fun _ => False) := all_any _ _ _ w9 m9 (by decide)
  refine s1.mono ?_
  clear s1
  rintro e w11 ⟨g, rfl, _, _, o11⟩
  go_wp2
  go_ret
  refine ⟨rfl, ?_⟩
  have hh : ∀ i, i < w.heap.size → i = w.heap.size → False := fun i h e => by omega
  exact ((((((((o1.trans' o2 hh).trans' o3 hh).trans' o4 hh).trans' o5 hh).trans' o6 hh).trans' o7 hh).trans' o8 hh).trans' o9 hh).trans o11

end Go.Proofs.Ytkejbpkpdgnodaa
