/-
  No cell of these rows narrows 'for every input' (looked for: loops, veiled, ifaces, maps, wideKeys, modest, calm, conditions, laid).
  DERIVED. THE GIVEN ROWS OF THIS SEAT. 7 by the template 'for every input the law returns true; each argument reads behind the call as it read before'; 0 by the template 'total and deterministic' (their statements: YtfagngiceofoeaaTotals.lean).
  GIVEN WITH THE SEED: the statements are not yours to turn. If you find one false, say at which input.
  Laid BY PROGRAM, IN A SANDBOX (cutbox-rows.mjs): the forced cells as the released guide's own fill.sh prints them over the translation cb47247545521f65… (all of the seat's roots in one cut). By AI agents, Wed Nov 11 2026. No macro, syntax, notation, axiom, sorry.
-/
import Derived.Test.YtfagngiceofoeaaChecked
import GoSem.Claim
import GoSem.ClaimJoined
import GoSem.ClaimMapViews
import Derived.JoinedTies
import Derived.KernelRfl
namespace Go.Proofs.Ytfagngiceofoeaa
/- THE CELL 'sum', in the pinned program and in every row, IS THE sha256 OF THE DUMP (.gsa) THAT YtfagngiceofoeaaProg.lean LOADS. Nothing in Lean hashes anything: it is a label: what it is worth is what the hold of that sum in a sandbox is worth. -/
noncomputable def Try.pinned : Pinned := { name := "ytfagngiceofoeaa", sum := "cb47247545521f654461ac066d0fd28d05171035f364061c2c02d30b1aadcfaf", checked := Try.checked }
namespace Rows
def none {H : Type} : Left H := { results := [], args := [] }

/-- 'treadlelaw08.CodeEncodes': WHATEVER THE INPUT: true; the input reads as it did. -/
def codeEncodesSpec : ChangeSpec := { name := "codeEncodes", fn := fun _ => fun
  | [d] => { results := [.lit (.bool true)], args := [d] }
  | _ => none }
def codeEncodesRow : OpenClaim := { program := "ytfagngiceofoeaa", sum := "cb47247545521f654461ac066d0fd28d05171035f364061c2c02d30b1aadcfaf", func := "treadle/treadlelaw08.CodeEncodes", spec := "codeEncodes", unfollowed := true, recurses := true, apart := false }
def CodeEncodesSaid : Prop := codeEncodesRow.holds Try.pinned (OpenSpec.ofChange codeEncodesSpec)

/-- ITS FALSE NEIGHBOUR: 'it returns false'. Refute it at one input. -/
def codeEncodesWrong : ChangeSpec := { name := "codeEncodes", fn := fun _ => fun
  | [d] => { results := [.lit (.bool false)], args := [d] }
  | _ => none }
def CodeEncodesWrongFalsely : Prop := codeEncodesRow.holds Try.pinned (OpenSpec.ofChange codeEncodesWrong)

/-- 'treadlelaw08.CodeDecodes': WHATEVER THE INPUT: true; the input reads as it did. -/
def codeDecodesSpec : ChangeSpec := { name := "codeDecodes", fn := fun _ => fun
  | [d] => { results := [.lit (.bool true)], args := [d] }
  | _ => none }
def codeDecodesRow : OpenClaim := { program := "ytfagngiceofoeaa", sum := "cb47247545521f654461ac066d0fd28d05171035f364061c2c02d30b1aadcfaf", func := "treadle/treadlelaw08.CodeDecodes", spec := "codeDecodes", unfollowed := true, recurses := true, apart := false }
def CodeDecodesSaid : Prop := codeDecodesRow.holds Try.pinned (OpenSpec.ofChange codeDecodesSpec)

/-- ITS FALSE NEIGHBOUR: 'it returns false'. Refute it at one input. -/
def codeDecodesWrong : ChangeSpec := { name := "codeDecodes", fn := fun _ => fun
  | [d] => { results := [.lit (.bool false)], args := [d] }
  | _ => none }
def CodeDecodesWrongFalsely : Prop := codeDecodesRow.holds Try.pinned (OpenSpec.ofChange codeDecodesWrong)

/-- 'treadlelaw08.CodeBack': WHATEVER THE INPUT: true; the input reads as it did. -/
def codeBackSpec : ChangeSpec := { name := "codeBack", fn := fun _ => fun
  | [d1, d2] => { results := [.lit (.bool true)], args := [d1, d2] }
  | _ => none }
def codeBackRow : OpenClaim := { program := "ytfagngiceofoeaa", sum := "cb47247545521f654461ac066d0fd28d05171035f364061c2c02d30b1aadcfaf", func := "treadle/treadlelaw08.CodeBack", spec := "codeBack", unfollowed := true, recurses := true, apart := false }
def CodeBackSaid : Prop := codeBackRow.holds Try.pinned (OpenSpec.ofChange codeBackSpec)

/-- ITS FALSE NEIGHBOUR: 'it returns false'. Refute it at one input. -/
def codeBackWrong : ChangeSpec := { name := "codeBack", fn := fun _ => fun
  | [d1, d2] => { results := [.lit (.bool false)], args := [d1, d2] }
  | _ => none }
def CodeBackWrongFalsely : Prop := codeBackRow.holds Try.pinned (OpenSpec.ofChange codeBackWrong)

/-- 'treadlelaw08.CodeKeeps': WHATEVER THE INPUT: true; the input reads as it did. -/
def codeKeepsSpec : ChangeSpec := { name := "codeKeeps", fn := fun _ => fun
  | [d] => { results := [.lit (.bool true)], args := [d] }
  | _ => none }
def codeKeepsRow : OpenClaim := { program := "ytfagngiceofoeaa", sum := "cb47247545521f654461ac066d0fd28d05171035f364061c2c02d30b1aadcfaf", func := "treadle/treadlelaw08.CodeKeeps", spec := "codeKeeps", unfollowed := true, recurses := true, apart := false }
def CodeKeepsSaid : Prop := codeKeepsRow.holds Try.pinned (OpenSpec.ofChange codeKeepsSpec)

/-- ITS FALSE NEIGHBOUR: 'it returns false'. Refute it at one input. -/
def codeKeepsWrong : ChangeSpec := { name := "codeKeeps", fn := fun _ => fun
  | [d] => { results := [.lit (.bool false)], args := [d] }
  | _ => none }
def CodeKeepsWrongFalsely : Prop := codeKeepsRow.holds Try.pinned (OpenSpec.ofChange codeKeepsWrong)

/-- 'treadlelaw08.CodeShort': WHATEVER THE INPUT: true; the input reads as it did. -/
def codeShortSpec : ChangeSpec := { name := "codeShort", fn := fun _ => fun
  | [d1, d2, d3] => { results := [.lit (.bool true)], args := [d1, d2, d3] }
  | _ => none }
def codeShortRow : OpenClaim := { program := "ytfagngiceofoeaa", sum := "cb47247545521f654461ac066d0fd28d05171035f364061c2c02d30b1aadcfaf", func := "treadle/treadlelaw08.CodeShort", spec := "codeShort", unfollowed := true, recurses := true, apart := false }
def CodeShortSaid : Prop := codeShortRow.holds Try.pinned (OpenSpec.ofChange codeShortSpec)

/-- ITS FALSE NEIGHBOUR: 'it returns false'. Refute it at one input. -/
def codeShortWrong : ChangeSpec := { name := "codeShort", fn := fun _ => fun
  | [d1, d2, d3] => { results := [.lit (.bool false)], args := [d1, d2, d3] }
  | _ => none }
def CodeShortWrongFalsely : Prop := codeShortRow.holds Try.pinned (OpenSpec.ofChange codeShortWrong)

/-- 'treadlelaw08.CodeImms': WHATEVER THE INPUT: true; the input reads as it did. -/
def codeImmsSpec : ChangeSpec := { name := "codeImms", fn := fun _ => fun
  | [d1, d2] => { results := [.lit (.bool true)], args := [d1, d2] }
  | _ => none }
def codeImmsRow : OpenClaim := { program := "ytfagngiceofoeaa", sum := "cb47247545521f654461ac066d0fd28d05171035f364061c2c02d30b1aadcfaf", func := "treadle/treadlelaw08.CodeImms", spec := "codeImms", unfollowed := true, recurses := true, apart := false }
def CodeImmsSaid : Prop := codeImmsRow.holds Try.pinned (OpenSpec.ofChange codeImmsSpec)

/-- ITS FALSE NEIGHBOUR: 'it returns false'. Refute it at one input. -/
def codeImmsWrong : ChangeSpec := { name := "codeImms", fn := fun _ => fun
  | [d1, d2] => { results := [.lit (.bool false)], args := [d1, d2] }
  | _ => none }
def CodeImmsWrongFalsely : Prop := codeImmsRow.holds Try.pinned (OpenSpec.ofChange codeImmsWrong)

/-- 'treadlelaw08.CodeFixed': WHATEVER THE INPUT: true; the input reads as it did. -/
def codeFixedSpec : ChangeSpec := { name := "codeFixed", fn := fun _ => fun
  | [] => { results := [.lit (.bool true)], args := [] }
  | _ => none }
def codeFixedRow : OpenClaim := { program := "ytfagngiceofoeaa", sum := "cb47247545521f654461ac066d0fd28d05171035f364061c2c02d30b1aadcfaf", func := "treadle/treadlelaw08.CodeFixed", spec := "codeFixed", unfollowed := true, recurses := true, apart := false }
def CodeFixedSaid : Prop := codeFixedRow.holds Try.pinned (OpenSpec.ofChange codeFixedSpec)

/-- ITS FALSE NEIGHBOUR: 'it returns false'. Refute it at one input. -/
def codeFixedWrong : ChangeSpec := { name := "codeFixed", fn := fun _ => fun
  | [] => { results := [.lit (.bool false)], args := [] }
  | _ => none }
def CodeFixedWrongFalsely : Prop := codeFixedRow.holds Try.pinned (OpenSpec.ofChange codeFixedWrong)

/- THE SECOND FORM. 'bulk': how many values and letters a reading holds, each counted each time it is reached (what is shared counts as often as it is met; a slice's spare places count too). A statement '..UptoSaid' is the law's where the arguments, and the package variables that the reading takes, are together of bulk at most 1048576: NARROWER than '..Said'. Prove '..Said' where nothing that the law and all that it calls make is longer than what came in: it says more and counts as full. Else prove '..UptoSaid'. A law counts once. -/
mutual
def uptoBulk {H : Type} : DataW H → Nat
  | .lit (.string bytes) => bytes.length + 1
  | .lit _ => 1
  | .nil => 1
  | .ptr d => uptoBulk d + 1
  | .slice elems spare => uptoBulkAll elems + uptoBulkAll spare + 1
  | .agg parts => uptoBulkAll parts + 1
  | .iface _ d => uptoBulk d + 1
  | .map entries => uptoBulkEntries entries + 1
  | .held _ => 1
def uptoBulkAll {H : Type} : List (DataW H) → Nat
  | [] => 0
  | d :: r => uptoBulk d + uptoBulkAll r
def uptoBulkEntries {H : Type} : List (Lit × DataW H) → Nat
  | [] => 0
  | x :: r => uptoBulkEntry x + uptoBulkEntries r
def uptoBulkEntry {H : Type} : Lit × DataW H → Nat
  | (.string bytes, d) => bytes.length + uptoBulk d + 1
  | (_, d) => uptoBulk d + 1
 end
def uptoSmall : (H : Type) → List (DataW H) → Bool := fun _ ds => decide (uptoBulkAll ds ≤ 1048576)
def OpenSpec.upto (s : _root_.Go.ChangeSpec) : _root_.Go.OpenSpec := { _root_.Go.OpenSpec.ofChange s with cond := some uptoSmall }

/-- 'treadlelaw08.CodeEncodes', WHERE WHAT IT READS IS OF BULK AT MOST 1048576: true; the input reads as it did. -/
def codeEncodesUptoRow : OpenClaim := { program := "ytfagngiceofoeaa", sum := "cb47247545521f654461ac066d0fd28d05171035f364061c2c02d30b1aadcfaf", func := "treadle/treadlelaw08.CodeEncodes", spec := "codeEncodes", unfollowed := true, recurses := true, apart := false, narrowed := true }
def CodeEncodesUptoSaid : Prop := codeEncodesUptoRow.holds Try.pinned (OpenSpec.upto codeEncodesSpec)

/-- 'treadlelaw08.CodeDecodes', WHERE WHAT IT READS IS OF BULK AT MOST 1048576: true; the input reads as it did. -/
def codeDecodesUptoRow : OpenClaim := { program := "ytfagngiceofoeaa", sum := "cb47247545521f654461ac066d0fd28d05171035f364061c2c02d30b1aadcfaf", func := "treadle/treadlelaw08.CodeDecodes", spec := "codeDecodes", unfollowed := true, recurses := true, apart := false, narrowed := true }
def CodeDecodesUptoSaid : Prop := codeDecodesUptoRow.holds Try.pinned (OpenSpec.upto codeDecodesSpec)

/-- 'treadlelaw08.CodeBack', WHERE WHAT IT READS IS OF BULK AT MOST 1048576: true; the input reads as it did. -/
def codeBackUptoRow : OpenClaim := { program := "ytfagngiceofoeaa", sum := "cb47247545521f654461ac066d0fd28d05171035f364061c2c02d30b1aadcfaf", func := "treadle/treadlelaw08.CodeBack", spec := "codeBack", unfollowed := true, recurses := true, apart := false, narrowed := true }
def CodeBackUptoSaid : Prop := codeBackUptoRow.holds Try.pinned (OpenSpec.upto codeBackSpec)

/-- 'treadlelaw08.CodeKeeps', WHERE WHAT IT READS IS OF BULK AT MOST 1048576: true; the input reads as it did. -/
def codeKeepsUptoRow : OpenClaim := { program := "ytfagngiceofoeaa", sum := "cb47247545521f654461ac066d0fd28d05171035f364061c2c02d30b1aadcfaf", func := "treadle/treadlelaw08.CodeKeeps", spec := "codeKeeps", unfollowed := true, recurses := true, apart := false, narrowed := true }
def CodeKeepsUptoSaid : Prop := codeKeepsUptoRow.holds Try.pinned (OpenSpec.upto codeKeepsSpec)

/-- 'treadlelaw08.CodeShort', WHERE WHAT IT READS IS OF BULK AT MOST 1048576: true; the input reads as it did. -/
def codeShortUptoRow : OpenClaim := { program := "ytfagngiceofoeaa", sum := "cb47247545521f654461ac066d0fd28d05171035f364061c2c02d30b1aadcfaf", func := "treadle/treadlelaw08.CodeShort", spec := "codeShort", unfollowed := true, recurses := true, apart := false, narrowed := true }
def CodeShortUptoSaid : Prop := codeShortUptoRow.holds Try.pinned (OpenSpec.upto codeShortSpec)

/-- 'treadlelaw08.CodeImms', WHERE WHAT IT READS IS OF BULK AT MOST 1048576: true; the input reads as it did. -/
def codeImmsUptoRow : OpenClaim := { program := "ytfagngiceofoeaa", sum := "cb47247545521f654461ac066d0fd28d05171035f364061c2c02d30b1aadcfaf", func := "treadle/treadlelaw08.CodeImms", spec := "codeImms", unfollowed := true, recurses := true, apart := false, narrowed := true }
def CodeImmsUptoSaid : Prop := codeImmsUptoRow.holds Try.pinned (OpenSpec.upto codeImmsSpec)

/-- 'treadlelaw08.CodeFixed', WHERE WHAT IT READS IS OF BULK AT MOST 1048576: true; the input reads as it did. -/
def codeFixedUptoRow : OpenClaim := { program := "ytfagngiceofoeaa", sum := "cb47247545521f654461ac066d0fd28d05171035f364061c2c02d30b1aadcfaf", func := "treadle/treadlelaw08.CodeFixed", spec := "codeFixed", unfollowed := true, recurses := true, apart := false, narrowed := true }
def CodeFixedUptoSaid : Prop := codeFixedUptoRow.holds Try.pinned (OpenSpec.upto codeFixedSpec)

end Rows
end Go.Proofs.Ytfagngiceofoeaa
