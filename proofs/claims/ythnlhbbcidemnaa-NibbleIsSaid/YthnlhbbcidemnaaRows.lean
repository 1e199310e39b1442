/-
  No cell of these rows narrows 'for every input' (looked for: loops, veiled, ifaces, maps, wideKeys, modest, calm, conditions, laid).
  DERIVED. THE GIVEN ROWS OF THIS SEAT. 5 by the template 'for every input the law returns true; each argument reads behind the call as it read before'; 0 by the template 'total and deterministic' (their statements: YthnlhbbcidemnaaTotals.lean).
  GIVEN WITH THE SEED: the statements are not yours to turn. If you find one false, say at which input.
  Laid BY PROGRAM, IN A SANDBOX (cutbox-rows.mjs): the forced cells as the released guide's own fill.sh prints them over the translation 1aac1981167917d1… (all of the seat's roots in one cut). By AI agents, Wed Nov 11 2026. No macro, syntax, notation, axiom, sorry.
-/
import Derived.Test.YthnlhbbcidemnaaChecked
import GoSem.Claim
import GoSem.ClaimJoined
import GoSem.ClaimMapViews
import Derived.JoinedTies
import Derived.KernelRfl
namespace Go.Proofs.Ythnlhbbcidemnaa
/- THE CELL 'sum', in the pinned program and in every row, IS THE sha256 OF THE DUMP (.gsa) THAT YthnlhbbcidemnaaProg.lean LOADS. Nothing in Lean hashes anything: it is a label: what it is worth is what the hold of that sum in a sandbox is worth. -/
noncomputable def Try.pinned : Pinned := { name := "ythnlhbbcidemnaa", sum := "1aac1981167917d136b86906c18c91dd70e3816aeaba3a1c204dc3d41af80e6b", checked := Try.checked }
namespace Rows
def none {H : Type} : Left H := { results := [], args := [] }

/-- 'guillochelaw01.NibbleIs': WHATEVER THE INPUT: true; the input reads as it did. -/
def nibbleIsSpec : ChangeSpec := { name := "nibbleIs", fn := fun _ => fun
  | [d1, d2] => { results := [.lit (.bool true)], args := [d1, d2] }
  | _ => none }
def nibbleIsRow : OpenClaim := { program := "ythnlhbbcidemnaa", sum := "1aac1981167917d136b86906c18c91dd70e3816aeaba3a1c204dc3d41af80e6b", func := "guilloche/guillochelaw01.NibbleIs", spec := "nibbleIs", unfollowed := true, recurses := true, apart := false }
def NibbleIsSaid : Prop := nibbleIsRow.holds Try.pinned (OpenSpec.ofChange nibbleIsSpec)

/-- ITS FALSE NEIGHBOUR: 'it returns false'. Refute it at one input. -/
def nibbleIsWrong : ChangeSpec := { name := "nibbleIs", fn := fun _ => fun
  | [d1, d2] => { results := [.lit (.bool false)], args := [d1, d2] }
  | _ => none }
def NibbleIsWrongFalsely : Prop := nibbleIsRow.holds Try.pinned (OpenSpec.ofChange nibbleIsWrong)

/-- 'guillochelaw01.NibbleOrder': WHATEVER THE INPUT: true; the input reads as it did. -/
def nibbleOrderSpec : ChangeSpec := { name := "nibbleOrder", fn := fun _ => fun
  | [d1, d2] => { results := [.lit (.bool true)], args := [d1, d2] }
  | _ => none }
def nibbleOrderRow : OpenClaim := { program := "ythnlhbbcidemnaa", sum := "1aac1981167917d136b86906c18c91dd70e3816aeaba3a1c204dc3d41af80e6b", func := "guilloche/guillochelaw01.NibbleOrder", spec := "nibbleOrder", unfollowed := true, recurses := true, apart := false }
def NibbleOrderSaid : Prop := nibbleOrderRow.holds Try.pinned (OpenSpec.ofChange nibbleOrderSpec)

/-- ITS FALSE NEIGHBOUR: 'it returns false'. Refute it at one input. -/
def nibbleOrderWrong : ChangeSpec := { name := "nibbleOrder", fn := fun _ => fun
  | [d1, d2] => { results := [.lit (.bool false)], args := [d1, d2] }
  | _ => none }
def NibbleOrderWrongFalsely : Prop := nibbleOrderRow.holds Try.pinned (OpenSpec.ofChange nibbleOrderWrong)

/-- 'guillochelaw01.NibbleCommon': WHATEVER THE INPUT: true; the input reads as it did. -/
def nibbleCommonSpec : ChangeSpec := { name := "nibbleCommon", fn := fun _ => fun
  | [d1, d2] => { results := [.lit (.bool true)], args := [d1, d2] }
  | _ => none }
def nibbleCommonRow : OpenClaim := { program := "ythnlhbbcidemnaa", sum := "1aac1981167917d136b86906c18c91dd70e3816aeaba3a1c204dc3d41af80e6b", func := "guilloche/guillochelaw01.NibbleCommon", spec := "nibbleCommon", unfollowed := true, recurses := true, apart := false }
def NibbleCommonSaid : Prop := nibbleCommonRow.holds Try.pinned (OpenSpec.ofChange nibbleCommonSpec)

/-- ITS FALSE NEIGHBOUR: 'it returns false'. Refute it at one input. -/
def nibbleCommonWrong : ChangeSpec := { name := "nibbleCommon", fn := fun _ => fun
  | [d1, d2] => { results := [.lit (.bool false)], args := [d1, d2] }
  | _ => none }
def NibbleCommonWrongFalsely : Prop := nibbleCommonRow.holds Try.pinned (OpenSpec.ofChange nibbleCommonWrong)

/-- 'guillochelaw01.NibbleSizes': WHATEVER THE INPUT: true; the input reads as it did. -/
def nibbleSizesSpec : ChangeSpec := { name := "nibbleSizes", fn := fun _ => fun
  | [d1, d2] => { results := [.lit (.bool true)], args := [d1, d2] }
  | _ => none }
def nibbleSizesRow : OpenClaim := { program := "ythnlhbbcidemnaa", sum := "1aac1981167917d136b86906c18c91dd70e3816aeaba3a1c204dc3d41af80e6b", func := "guilloche/guillochelaw01.NibbleSizes", spec := "nibbleSizes", unfollowed := true, recurses := true, apart := false }
def NibbleSizesSaid : Prop := nibbleSizesRow.holds Try.pinned (OpenSpec.ofChange nibbleSizesSpec)

/-- ITS FALSE NEIGHBOUR: 'it returns false'. Refute it at one input. -/
def nibbleSizesWrong : ChangeSpec := { name := "nibbleSizes", fn := fun _ => fun
  | [d1, d2] => { results := [.lit (.bool false)], args := [d1, d2] }
  | _ => none }
def NibbleSizesWrongFalsely : Prop := nibbleSizesRow.holds Try.pinned (OpenSpec.ofChange nibbleSizesWrong)

/-- 'guillochelaw01.NibbleJoins': WHATEVER THE INPUT: true; the input reads as it did. -/
def nibbleJoinsSpec : ChangeSpec := { name := "nibbleJoins", fn := fun _ => fun
  | [d1, d2] => { results := [.lit (.bool true)], args := [d1, d2] }
  | _ => none }
def nibbleJoinsRow : OpenClaim := { program := "ythnlhbbcidemnaa", sum := "1aac1981167917d136b86906c18c91dd70e3816aeaba3a1c204dc3d41af80e6b", func := "guilloche/guillochelaw01.NibbleJoins", spec := "nibbleJoins", unfollowed := true, recurses := true, apart := false }
def NibbleJoinsSaid : Prop := nibbleJoinsRow.holds Try.pinned (OpenSpec.ofChange nibbleJoinsSpec)

/-- ITS FALSE NEIGHBOUR: 'it returns false'. Refute it at one input. -/
def nibbleJoinsWrong : ChangeSpec := { name := "nibbleJoins", fn := fun _ => fun
  | [d1, d2] => { results := [.lit (.bool false)], args := [d1, d2] }
  | _ => none }
def NibbleJoinsWrongFalsely : Prop := nibbleJoinsRow.holds Try.pinned (OpenSpec.ofChange nibbleJoinsWrong)

/- THE SECOND FORM. 'bulk': how many values and letters a reading holds, each counted each time it is reached (what is shared counts as often as it is met; a slice's spare places count too). A statement '..UptoSaid' is the law's where the arguments, and the package variables that the reading takes, are together of bulk at most 1048576: NARROWER than '..Said'. Prove '..Said' where nothing that the law and all that it calls make is longer than what came in: it says more and counts as full. Else prove '..UptoSaid'. A law counts once. -/
mutual
def uptoBulk {H : Type} : DataW H → Nat
  | .lit (.string bytes) => bytes.length + 1
  | .lit _ => 1
  | .nil => 1
  | .ptr d => uptoBulk d + 1
  | .slice elems spare => uptoBulkAll elems + uptoBulkAll spare + 1
  | .agg parts => uptoBulkAll parts + 1
  | .iface _ d => uptoBulk d + 1
  | .map entries => uptoBulkEntries entries + 1
  | .held _ => 1
def uptoBulkAll {H : Type} : List (DataW H) → Nat
  | [] => 0
  | d :: r => uptoBulk d + uptoBulkAll r
def uptoBulkEntries {H : Type} : List (Lit × DataW H) → Nat
  | [] => 0
  | x :: r => uptoBulkEntry x + uptoBulkEntries r
def uptoBulkEntry {H : Type} : Lit × DataW H → Nat
  | (.string bytes, d) => bytes.length + uptoBulk d + 1
  | (_, d) => uptoBulk d + 1
 end
def uptoSmall : (H : Type) → List (DataW H) → Bool := fun _ ds => decide (uptoBulkAll ds ≤ 1048576)
def OpenSpec.upto (s : _root_.Go.ChangeSpec) : _root_.Go.OpenSpec := { _root_.Go.OpenSpec.ofChange s with cond := some uptoSmall }

/-- 'guillochelaw01.NibbleIs', WHERE WHAT IT READS IS OF BULK AT MOST 1048576: true; the input reads as it did. -/
def nibbleIsUptoRow : OpenClaim := { program := "ythnlhbbcidemnaa", sum := "1aac1981167917d136b86906c18c91dd70e3816aeaba3a1c204dc3d41af80e6b", func := "guilloche/guillochelaw01.NibbleIs", spec := "nibbleIs", unfollowed := true, recurses := true, apart := false, narrowed := true }
def NibbleIsUptoSaid : Prop := nibbleIsUptoRow.holds Try.pinned (OpenSpec.upto nibbleIsSpec)

/-- 'guillochelaw01.NibbleOrder', WHERE WHAT IT READS IS OF BULK AT MOST 1048576: true; the input reads as it did. -/
def nibbleOrderUptoRow : OpenClaim := { program := "ythnlhbbcidemnaa", sum := "1aac1981167917d136b86906c18c91dd70e3816aeaba3a1c204dc3d41af80e6b", func := "guilloche/guillochelaw01.NibbleOrder", spec := "nibbleOrder", unfollowed := true, recurses := true, apart := false, narrowed := true }
def NibbleOrderUptoSaid : Prop := nibbleOrderUptoRow.holds Try.pinned (OpenSpec.upto nibbleOrderSpec)

/-- 'guillochelaw01.NibbleCommon', WHERE WHAT IT READS IS OF BULK AT MOST 1048576: true; the input reads as it did. -/
def nibbleCommonUptoRow : OpenClaim := { program := "ythnlhbbcidemnaa", sum := "1aac1981167917d136b86906c18c91dd70e3816aeaba3a1c204dc3d41af80e6b", func := "guilloche/guillochelaw01.NibbleCommon", spec := "nibbleCommon", unfollowed := true, recurses := true, apart := false, narrowed := true }
def NibbleCommonUptoSaid : Prop := nibbleCommonUptoRow.holds Try.pinned (OpenSpec.upto nibbleCommonSpec)

/-- 'guillochelaw01.NibbleSizes', WHERE WHAT IT READS IS OF BULK AT MOST 1048576: true; the input reads as it did. -/
def nibbleSizesUptoRow : OpenClaim := { program := "ythnlhbbcidemnaa", sum := "1aac1981167917d136b86906c18c91dd70e3816aeaba3a1c204dc3d41af80e6b", func := "guilloche/guillochelaw01.NibbleSizes", spec := "nibbleSizes", unfollowed := true, recurses := true, apart := false, narrowed := true }
def NibbleSizesUptoSaid : Prop := nibbleSizesUptoRow.holds Try.pinned (OpenSpec.upto nibbleSizesSpec)

/-- 'guillochelaw01.NibbleJoins', WHERE WHAT IT READS IS OF BULK AT MOST 1048576: true; the input reads as it did. -/
def nibbleJoinsUptoRow : OpenClaim := { program := "ythnlhbbcidemnaa", sum := "1aac1981167917d136b86906c18c91dd70e3816aeaba3a1c204dc3d41af80e6b", func := "guilloche/guillochelaw01.NibbleJoins", spec := "nibbleJoins", unfollowed := true, recurses := true, apart := false, narrowed := true }
def NibbleJoinsUptoSaid : Prop := nibbleJoinsUptoRow.holds Try.pinned (OpenSpec.upto nibbleJoinsSpec)

end Rows
end Go.Proofs.Ythnlhbbcidemnaa
