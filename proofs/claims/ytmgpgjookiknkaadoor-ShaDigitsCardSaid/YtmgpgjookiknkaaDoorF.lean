/- The hash of parts: the contracts of New and Of. -/
import Derived.Test.YtmgpgjookiknkaaDoorE
namespace Go.Proofs.YtmgpgjookiknkaaDoor
open Go.RowKit

theorem built41 : (Tryd.prog.built 41 [(0, Value.int .u32 1779033703), (1, .int .u32 3144134277), (2, .int .u32 1013904242), (3, .int .u32 2773480762), (4, .int .u32 1359893119), (5, .int .u32 2600822924), (6, .int .u32 528734635), (7, .int .u32 1541459225)]) = some (w32 Sh.H0).toArray := by kernel_rfl
theorem built45 : (Tryd.prog.built 45 [(0, Value.agg (w32 Sh.H0).toArray)]) = some (hcells Sh.H0 (List.replicate 64 0) 0 0).toArray := by kernel_rfl

theorem zero45l (w : World) : (zeroValue 45).run Tryd.prog w = .ok (.agg #[.int .u32 0, .int .u32 0, .int .u32 0, .int .u32 0, .int .u32 0, .int .u32 0, .int .u32 0, .int .u32 0, .int .u8 0, .int .u8 0, .int .u8 0, .int .u8 0, .int .u8 0, .int .u8 0, .int .u8 0, .int .u8 0, .int .u8 0, .int .u8 0, .int .u8 0, .int .u8 0, .int .u8 0, .int .u8 0, .int .u8 0, .int .u8 0, .int .u8 0, .int .u8 0, .int .u8 0, .int .u8 0, .int .u8 0, .int .u8 0, .int .u8 0, .int .u8 0, .int .u8 0, .int .u8 0, .int .u8 0, .int .u8 0, .int .u8 0, .int .u8 0, .int .u8 0, .int .u8 0, .int .u8 0, .int .u8 0, .int .u8 0, .int .u8 0, .int .u8 0, .int .u8 0, .int .u8 0, .int .u8 0, .int .u8 0, .int .u8 0, .int .u8 0, .int .u8 0, .int .u8 0, .int .u8 0, .int .u8 0, .int .u8 0, .int .u8 0, .int .u8 0, .int .u8 0, .int .u8 0, .int .u8 0, .int .u8 0, .int .u8 0, .int .u8 0, .int .u8 0, .int .u8 0, .int .u8 0, .int .u8 0, .int .u8 0, .int .u8 0, .int .u8 0, .int .u8 0, .int .i64 0, .int .u64 0]) w := zero45 w
set_option maxRecDepth 100000 in
set_option maxHeartbeats 800000 in
theorem new_any (w : World) : Calls Tryd.prog 11 #[] w fun e w' =>
    e = .returned (.pointer (some ⟨w.heap.size, 0, none⟩)) ∧ w' = w.alloc (.cells (hcells Sh.H0 (List.replicate 64 0) 0 0).toArray 45) := by
  have hz := zero45l
  go_enter Tryd.func11, Tryd.ntmps11
  go_wp2
  go_ret
  exact ⟨rfl, rfl⟩

theorem H0_hash (w : World) : IsHash (w.alloc (.cells (hcells Sh.H0 (List.replicate 64 0) 0 0).toArray 45)) w.heap.size Sh.st0 0 :=
  ⟨Sh.st0_ok, List.replicate 64 0, by simp, rfl, heap_alloc_last _ _⟩
/-- The bytes of parts. -/
def flat (L : List ByteArray) : List Nat := L.flatMap bl
theorem flat_take_succ {L : List ByteArray} {k : Nat} (hk : k < L.length) : flat (L.take (k + 1)) = flat (L.take k) ++ bl L[k] := by
  unfold flat
  rw [List.take_succ_eq_append_getElem hk, List.flatMap_append]
  simp
theorem flat_take_le (L : List ByteArray) (k : Nat) : (flat (L.take k)).length ≤ (flat L).length := by
  conv => rhs; rw [← List.take_append_drop k L]
  unfold flat
  rw [List.flatMap_append, List.length_append]
  omega

set_option maxRecDepth 100000 in
set_option maxHeartbeats 800000 in
theorem of_any (b off cap : Nat) (L : List ByteArray) (w : World) (hL : Laid w) (hc : ∀ j (hj : j < L.length), w.cell? ⟨b, off + j, none⟩ = some (.string L[j])) (hb : b < w.heap.size) (hm : L.length ≤ 1000000)
    (hn : (flat L).length ≤ 1152921504606846976) :
    Calls Tryd.prog 9 #[.slice (some ⟨b, off, none⟩) L.length cap] w fun e w' => e = .returned (.string (tx (Sh.of (flat L)))) ∧ Below w.heap.size w w' := by
  have HL := Lib.hid hL
  have HC := Lib.hid hc
  have HN := Lib.hid hn
  clear hL hc hn
  go_enter Tryd.func9, Tryd.ntmps9
  go_wp2_with (first | ((refine (new_any _).mono ?_); rintro e w1 ⟨rfl, hw1⟩; have h1 : IsHash w1 w.heap.size Sh.st0 0 ∧ Below w.heap.size w w1 := (by rw [hw1]; exact ⟨H0_hash w, (Below.refl _ _).alloc (Nat.le_refl _) _⟩); have H1 := Lib.hid h1; clear h1 hw1))
  generalize hg : w.heap.size = g at H1 ⊢
  have HG := Lib.hid hg
  clear hg
  go_loopw [9] (fun i wr => ∃ (k : Nat), k ≤ L.length ∧ i = .int .i64 k ∧ Hid (IsHash wr g (Sh.write Sh.st0 (flat (L.take k))) (flat (L.take k)).length) ∧ Hid (Below g w wr)) (fun i _ => L.length - (intOf i).toNat)
  case atStart => exact ⟨0, Nat.zero_le _, rfl, H1.out.1, H1.out.2⟩
  case round =>
    obtain ⟨k, hk, rfl, hh, hbl⟩ := hrel
    by_cases hlk : k < L.length
    · have c0 : wr.cell? ⟨b, off + k, none⟩ = some (.string L[k]) := (hbl.out.cell (p := ⟨b, off + k, none⟩) (by show b < g; have := HG.out; omega)).trans (HC.out k hlk)
      have j5 : (0 : Int) ≤ (k : Int) := by omega
      have j6 : (k : Int) < (L.length : Int) := by omega
      have hLw : Laid wr := HL.out.below hbl.out (by have := HL.out.1; have := HG.out; omega)
      have hg0 : 0 < g := by have := HL.out.1; have := HG.out; omega
      have hsz : (flat (L.take k)).length + (L[k]).size ≤ 4611686018427387904 := by
        have h1 := flat_take_le L (k + 1)
        rw [flat_take_succ hlk, List.length_append, bl_length] at h1
        have := HN.out
        omega
      generalize hx : L[k] = x at c0 hsz
      have HW := Lib.hid (And.intro hLw (And.intro hg0 (And.intro hsz hx)))
      clear hLw hg0 hsz hx
      go_wp2_with (first | ((refine (write_any g _ _ _ x hh.out HW.out.1 HW.out.2.1 HW.out.2.2.1).mono ?_); rintro e w2 ⟨rfl, hh2, ho2⟩; have H2 := Lib.hid (And.intro hh2 ho2); clear hh2 ho2))
      go_roundw
      case rel =>
        have e := flat_take_succ hlk
        rw [HW.out.2.2.2] at e
        refine ⟨k + 1, by omega, by go_num, ?_, hbl.out.trans (H2.out.2.below (Nat.le_refl _) (by have := hbl.out.size; have := HG.out; omega))⟩
        have h := H2.out.1
        rw [← Sh.write_append, ← e] at h
        have el : (flat (L.take k)).length + x.size = (flat (L.take (k + 1))).length := by rw [e, List.length_append, bl_length]
        rw [el] at h
        exact h
      case measure => simp [intOf]; omega
    · have hk2 : k = L.length := by omega
      subst hk2
      have ht : L.take L.length = L := List.take_of_length_le (Nat.le_refl _)
      have hh2 := hh.out
      rw [ht] at hh2
      have HH2 := Lib.hid hh2
      clear hh2 ht
      have HLw := Lib.hid (HL.out.below hbl.out (by have := HL.out.1; have := HG.out; omega))
      go_wp2_with (first | ((refine (sum_any g _ _ _ HH2.out HLw.out HN.out).mono ?_); rintro e w2 ⟨rfl, ho2⟩))
      go_ret
      exact ⟨rfl, by have := HG.out; subst this; exact hbl.out.trans (ho2.mono hbl.out.size)⟩
end Go.Proofs.YtmgpgjookiknkaaDoor
