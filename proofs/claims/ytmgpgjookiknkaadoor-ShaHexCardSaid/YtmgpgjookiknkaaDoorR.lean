/- The machine's words as plain numbers: each operation of 32 bits on casts; right's contracts so. -/
import Derived.Test.YtmgpgjookiknkaaDoorM
import Derived.Test.YtmgpgjookiknkaaDoorA
namespace Go.Proofs.YtmgpgjookiknkaaDoor
open Go.RowKit

theorem wrap_nat (a : Nat) : IntKind.u32.wrap (a : Int) = ((a % 4294967296 : Nat) : Int) := by
  unfold IntKind.wrap
  simp [IntKind.bits, IntKind.signed]
theorem m32 : (4294967296 : Nat) = 2 ^ 32 := rfl
theorem w_or (a b : Nat) : bits .or .u32 (a : Int) (b : Int) = ((Sh.oo a b : Nat) : Int) := by
  unfold bits Sh.oo
  rw [show IntKind.u32.bits = 32 from rfl, BitVec.ofInt_natCast, BitVec.ofInt_natCast]
  simp only [BitVec.toNat_or, BitVec.toNat_ofNat, wrap_nat]
  rw [m32, Nat.or_mod_two_pow, Nat.mod_mod, Nat.mod_mod, ← Nat.or_mod_two_pow]
theorem w_xor (a b : Nat) : bits .xor .u32 (a : Int) (b : Int) = ((Sh.xo a b : Nat) : Int) := by
  unfold bits Sh.xo
  rw [show IntKind.u32.bits = 32 from rfl, BitVec.ofInt_natCast, BitVec.ofInt_natCast]
  simp only [BitVec.toNat_xor, BitVec.toNat_ofNat, wrap_nat]
  rw [m32, Nat.xor_mod_two_pow, Nat.mod_mod, Nat.mod_mod, ← Nat.xor_mod_two_pow]
theorem w_and (a b : Nat) : bits .and .u32 (a : Int) (b : Int) = ((Sh.an a b : Nat) : Int) := by
  unfold bits Sh.an
  rw [show IntKind.u32.bits = 32 from rfl, BitVec.ofInt_natCast, BitVec.ofInt_natCast]
  simp only [BitVec.toNat_and, BitVec.toNat_ofNat, wrap_nat]
  rw [m32, Nat.and_mod_two_pow, Nat.mod_mod, Nat.mod_mod, ← Nat.and_mod_two_pow]
theorem w_add (a b : Nat) : IntKind.u32.wrap ((a : Int) + (b : Int)) = ((Sh.ad a b : Nat) : Int) := by
  rw [← Int.natCast_add, wrap_nat]; rfl
theorem w_mul (a b : Nat) : IntKind.u32.wrap ((a : Int) * (b : Int)) = ((a * b % 4294967296 : Nat) : Int) := by
  rw [← Int.natCast_mul, wrap_nat]
theorem w_not (a : Nat) : bits .xor .u32 (if IntKind.u32.signed = true then -1 else IntKind.u32.max) (a : Int) = ((Sh.nt a : Nat) : Int) := by
  rw [show (if IntKind.u32.signed = true then (-1 : Int) else IntKind.u32.max) = ((4294967295 : Nat) : Int) by decide, w_xor]
  rfl
theorem div8 (x : Nat) : (x : Int) / 8 = ((x / 8 : Nat) : Int) := by omega
theorem div1024 (x : Nat) : (x : Int) / 1024 = ((x / 1024 : Nat) : Int) := by omega
theorem rr_nat (x n : Nat) : rr (x : Int) n = ((Sh.rot x n : Nat) : Int) := by
  unfold rr Sh.rot
  rw [← w_or]
  congr 1

theorem rot2 (x : Nat) (w : World) : Calls Tryd.prog 19 #[.int .u32 (x : Int), .int .i64 2] w fun e w' => e = .returned (.int .u32 ((Sh.rot x 2 : Nat) : Int)) ∧ w = w' := by
  have h := right2 (x : Int) w
  rw [rr_nat] at h
  exact h.mono fun e w' h => ⟨h.1, h.2.symm⟩
theorem rotq2 (x : Nat) (w : World) : Calls Tryd.prog 19 #[.int .u32 (x : Int), .int .i64 2] w fun e w' => e = .returned (.int .u32 ((Sh.rot x 2 : Nat) : Int)) ∧ w' = w :=
  (rot2 x w).mono fun e w' h => ⟨h.1, h.2.symm⟩
theorem rot6 (x : Nat) (w : World) : Calls Tryd.prog 19 #[.int .u32 (x : Int), .int .i64 6] w fun e w' => e = .returned (.int .u32 ((Sh.rot x 6 : Nat) : Int)) ∧ w = w' := by
  have h := right6 (x : Int) w
  rw [rr_nat] at h
  exact h.mono fun e w' h => ⟨h.1, h.2.symm⟩
theorem rotq6 (x : Nat) (w : World) : Calls Tryd.prog 19 #[.int .u32 (x : Int), .int .i64 6] w fun e w' => e = .returned (.int .u32 ((Sh.rot x 6 : Nat) : Int)) ∧ w' = w :=
  (rot6 x w).mono fun e w' h => ⟨h.1, h.2.symm⟩
theorem rot7 (x : Nat) (w : World) : Calls Tryd.prog 19 #[.int .u32 (x : Int), .int .i64 7] w fun e w' => e = .returned (.int .u32 ((Sh.rot x 7 : Nat) : Int)) ∧ w = w' := by
  have h := right7 (x : Int) w
  rw [rr_nat] at h
  exact h.mono fun e w' h => ⟨h.1, h.2.symm⟩
theorem rotq7 (x : Nat) (w : World) : Calls Tryd.prog 19 #[.int .u32 (x : Int), .int .i64 7] w fun e w' => e = .returned (.int .u32 ((Sh.rot x 7 : Nat) : Int)) ∧ w' = w :=
  (rot7 x w).mono fun e w' h => ⟨h.1, h.2.symm⟩
theorem rot11 (x : Nat) (w : World) : Calls Tryd.prog 19 #[.int .u32 (x : Int), .int .i64 11] w fun e w' => e = .returned (.int .u32 ((Sh.rot x 11 : Nat) : Int)) ∧ w = w' := by
  have h := right11 (x : Int) w
  rw [rr_nat] at h
  exact h.mono fun e w' h => ⟨h.1, h.2.symm⟩
theorem rotq11 (x : Nat) (w : World) : Calls Tryd.prog 19 #[.int .u32 (x : Int), .int .i64 11] w fun e w' => e = .returned (.int .u32 ((Sh.rot x 11 : Nat) : Int)) ∧ w' = w :=
  (rot11 x w).mono fun e w' h => ⟨h.1, h.2.symm⟩
theorem rot13 (x : Nat) (w : World) : Calls Tryd.prog 19 #[.int .u32 (x : Int), .int .i64 13] w fun e w' => e = .returned (.int .u32 ((Sh.rot x 13 : Nat) : Int)) ∧ w = w' := by
  have h := right13 (x : Int) w
  rw [rr_nat] at h
  exact h.mono fun e w' h => ⟨h.1, h.2.symm⟩
theorem rotq13 (x : Nat) (w : World) : Calls Tryd.prog 19 #[.int .u32 (x : Int), .int .i64 13] w fun e w' => e = .returned (.int .u32 ((Sh.rot x 13 : Nat) : Int)) ∧ w' = w :=
  (rot13 x w).mono fun e w' h => ⟨h.1, h.2.symm⟩
theorem rot17 (x : Nat) (w : World) : Calls Tryd.prog 19 #[.int .u32 (x : Int), .int .i64 17] w fun e w' => e = .returned (.int .u32 ((Sh.rot x 17 : Nat) : Int)) ∧ w = w' := by
  have h := right17 (x : Int) w
  rw [rr_nat] at h
  exact h.mono fun e w' h => ⟨h.1, h.2.symm⟩
theorem rotq17 (x : Nat) (w : World) : Calls Tryd.prog 19 #[.int .u32 (x : Int), .int .i64 17] w fun e w' => e = .returned (.int .u32 ((Sh.rot x 17 : Nat) : Int)) ∧ w' = w :=
  (rot17 x w).mono fun e w' h => ⟨h.1, h.2.symm⟩
theorem rot18 (x : Nat) (w : World) : Calls Tryd.prog 19 #[.int .u32 (x : Int), .int .i64 18] w fun e w' => e = .returned (.int .u32 ((Sh.rot x 18 : Nat) : Int)) ∧ w = w' := by
  have h := right18 (x : Int) w
  rw [rr_nat] at h
  exact h.mono fun e w' h => ⟨h.1, h.2.symm⟩
theorem rotq18 (x : Nat) (w : World) : Calls Tryd.prog 19 #[.int .u32 (x : Int), .int .i64 18] w fun e w' => e = .returned (.int .u32 ((Sh.rot x 18 : Nat) : Int)) ∧ w' = w :=
  (rot18 x w).mono fun e w' h => ⟨h.1, h.2.symm⟩
theorem rot19 (x : Nat) (w : World) : Calls Tryd.prog 19 #[.int .u32 (x : Int), .int .i64 19] w fun e w' => e = .returned (.int .u32 ((Sh.rot x 19 : Nat) : Int)) ∧ w = w' := by
  have h := right19 (x : Int) w
  rw [rr_nat] at h
  exact h.mono fun e w' h => ⟨h.1, h.2.symm⟩
theorem rotq19 (x : Nat) (w : World) : Calls Tryd.prog 19 #[.int .u32 (x : Int), .int .i64 19] w fun e w' => e = .returned (.int .u32 ((Sh.rot x 19 : Nat) : Int)) ∧ w' = w :=
  (rot19 x w).mono fun e w' h => ⟨h.1, h.2.symm⟩
theorem rot22 (x : Nat) (w : World) : Calls Tryd.prog 19 #[.int .u32 (x : Int), .int .i64 22] w fun e w' => e = .returned (.int .u32 ((Sh.rot x 22 : Nat) : Int)) ∧ w = w' := by
  have h := right22 (x : Int) w
  rw [rr_nat] at h
  exact h.mono fun e w' h => ⟨h.1, h.2.symm⟩
theorem rotq22 (x : Nat) (w : World) : Calls Tryd.prog 19 #[.int .u32 (x : Int), .int .i64 22] w fun e w' => e = .returned (.int .u32 ((Sh.rot x 22 : Nat) : Int)) ∧ w' = w :=
  (rot22 x w).mono fun e w' h => ⟨h.1, h.2.symm⟩
theorem rot25 (x : Nat) (w : World) : Calls Tryd.prog 19 #[.int .u32 (x : Int), .int .i64 25] w fun e w' => e = .returned (.int .u32 ((Sh.rot x 25 : Nat) : Int)) ∧ w = w' := by
  have h := right25 (x : Int) w
  rw [rr_nat] at h
  exact h.mono fun e w' h => ⟨h.1, h.2.symm⟩
theorem rotq25 (x : Nat) (w : World) : Calls Tryd.prog 19 #[.int .u32 (x : Int), .int .i64 25] w fun e w' => e = .returned (.int .u32 ((Sh.rot x 25 : Nat) : Int)) ∧ w' = w :=
  (rot25 x w).mono fun e w' h => ⟨h.1, h.2.symm⟩
theorem rotq_any (x : Nat) (n : Int) (h : n ∈ [(2 : Int), 6, 7, 11, 13, 17, 18, 19, 22, 25]) (w : World) : Calls Tryd.prog 19 #[.int .u32 (x : Int), .int .i64 n] w fun e w' => e = .returned (.int .u32 ((Sh.rot x n.toNat : Nat) : Int)) ∧ w' = w := by
  simp only [List.mem_cons, List.not_mem_nil, or_false] at h
  rcases h with rfl | rfl | rfl | rfl | rfl | rfl | rfl | rfl | rfl | rfl
  · exact rotq2 x w
  · exact rotq6 x w
  · exact rotq7 x w
  · exact rotq11 x w
  · exact rotq13 x w
  · exact rotq17 x w
  · exact rotq18 x w
  · exact rotq19 x w
  · exact rotq22 x w
  · exact rotq25 x w
end Go.Proofs.YtmgpgjookiknkaaDoor
