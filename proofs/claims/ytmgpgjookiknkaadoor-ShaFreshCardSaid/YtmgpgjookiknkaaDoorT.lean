/- The table of constants as the rows list it: what it gives the walks; that a start meets it. -/
import Derived.Test.YtmgpgjookiknkaaDoorRows
import Derived.Test.YtmgpgjookiknkaaDoorC
import Derived.ProofKit
import Derived.LaidMore
import Derived.OpenShut
import Derived.Stop.Joined
namespace Go.Proofs.YtmgpgjookiknkaaDoor
open Go.ChangeShapes Go.WideShapes Go.ChangeAt Go.RowKit

theorem own_knob : ownKnob Tryd.prog.godebug = none := by kernel_rfl
theorem gCubes : Tryd.prog.globalNamed "guilloche/sha.cubes" = some 0 := by kernel_rfl
theorem tCubes : (Tryd.prog.globals[0]?).map (·.type) = some 48 := by kernel_rfl
def laidL : List (String × DataW Unit) := [("guilloche/sha.cubes", Rows.laid_guilloche_sha_cubes)]

set_option maxRecDepth 100000 in
theorem door_met (os : Os) (args : Array Value) : laidMetH Tryd.prog laidL ((World.doorLaid Tryd.prog 14 os).forCall (fun _ _ => 0) ⟨#[], args, []⟩).memory :=
  laidMetH_of_parts3 (fuel := 8) (laidMet_of_run' 8 (by kernel_rfl) (by kernel_rfl)) (by kernel_rfl) (by kernel_rfl)

theorem cubesD : (Rows.laid_guilloche_sha_cubes : DataW Unit) = .agg (Sh.cubes.map fun x : Nat => .lit (.int .u32 (x : Int))) := by kernel_rfl

/-- What the listing gives the walks. -/
theorem of_laid {W : World} (h : laidMetH Tryd.prog laidL W) : Laid W := by
  rw [MakeChecks.laidMetH_plain _ _ _ (by kernel_rfl)] at h
  obtain ⟨ps, ⟨g0, t0, cs0, f0, p0, q0, hg0, ht0, hv0, hd0, _, _⟩, _, _⟩ := h
  obtain rfl := Option.some.inj (gCubes.symm.trans hg0)
  obtain rfl := Option.some.inj (tCubes.symm.trans ht0)
  rw [cubesD] at hd0
  obtain ⟨xs, m1, rfl, hx1, hlen, hn, hel⟩ := DataW.trod_array Tryd.underlying48 hd0
  have c40 : Tryd.prog.cellsOf 40 = 1 := by kernel_rfl
  have c48 : Tryd.prog.cellsOf 48 = 64 := by kernel_rfl
  rw [c48] at hlen
  simp only [Prod.mk.injEq, DataW.agg.injEq] at hx1
  have hcell : ∀ j, j < 64 → W.cell? ⟨0, j, none⟩ = some (.int .u32 ((Sh.cubes.getD j 0 : Nat) : Int)) := by
    intro j hj
    have h1 := hel j hj
    rw [c40, Nat.mul_one] at h1
    have hxj : j < xs.length := by omega
    rw [List.getElem?_eq_getElem hxj] at h1
    obtain ⟨k, e1, e2, _⟩ := DataW.trod_int Tryd.underlying40 h1
    have h2 : (xs.map (·.1))[j]? = some (.lit (.int .u32 k)) := by rw [List.getElem?_map, List.getElem?_eq_getElem hxj, Option.map_some, e2]
    rw [← hx1.1, List.getElem?_map, List.getElem?_eq_getElem (by show j < Sh.cubes.length; exact hj)] at h2
    simp only [Option.map_some, Option.some.injEq, DataW.lit.injEq, Lit.int.injEq, true_and] at h2
    have h3 := World.var?_cell hg0 hv0 j
    have h4 : ((cs0.toList.drop j).take 1)[0]? = some (Value.int .u32 k) := by rw [e1]; rfl
    rw [List.getElem?_take, if_pos (by decide), List.getElem?_drop, Nat.add_zero, Array.getElem?_toList] at h4
    rw [h3, h4, ← h2]
    simp [List.getD_eq_getElem?_getD, show j < Sh.cubes.length from hj]
    rfl
  exact ⟨World.block_lt_of_cell? W ⟨0, 0, none⟩ (hcell 0 (by decide)), hcell⟩
end Go.Proofs.YtmgpgjookiknkaaDoor
