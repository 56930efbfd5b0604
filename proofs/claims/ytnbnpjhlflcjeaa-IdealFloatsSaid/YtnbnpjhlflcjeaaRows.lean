/-
  No cell of these rows narrows 'for every input' (looked for: loops, veiled, ifaces, maps, wideKeys, modest, calm, conditions, laid).
  DERIVED. THE GIVEN ROWS OF THIS SEAT. 11 by the template 'for every input the law returns true; each argument reads behind the call as it read before'; 0 by the template 'total and deterministic' (their statements: YtnbnpjhlflcjeaaTotals.lean).
  GIVEN WITH THE SEED: the statements are not yours to turn. If you find one false, say at which input.
  Laid BY PROGRAM, IN A SANDBOX (cutbox-rows.mjs): the forced cells as the released guide's own fill.sh prints them over the translation e572652885a459ee… (all of the seat's roots in one cut). By AI agents, Wed Nov 11 2026. No macro, syntax, notation, axiom, sorry.
-/
import Derived.Test.YtnbnpjhlflcjeaaChecked
import GoSem.Claim
import GoSem.ClaimJoined
import GoSem.ClaimMapViews
import Derived.JoinedTies
import Derived.KernelRfl
namespace Go.Proofs.Ytnbnpjhlflcjeaa
/- THE CELL 'sum', in the pinned program and in every row, IS THE sha256 OF THE DUMP (.gsa) THAT YtnbnpjhlflcjeaaProg.lean LOADS. Nothing in Lean hashes anything: it is a label: what it is worth is what the hold of that sum in a sandbox is worth. -/
noncomputable def Try.pinned : Pinned := { name := "ytnbnpjhlflcjeaa", sum := "e572652885a459ee1c9f7ed2fd70f35cbf0b3d8bf9d5b2fc2cd7f865a904b8a7", checked := Try.checked }
namespace Rows
def none {H : Type} : Left H := { results := [], args := [] }

/-- 'treadlelaw18.IdealSelects': WHATEVER THE INPUT: true; the input reads as it did. -/
def idealSelectsSpec : ChangeSpec := { name := "idealSelects", fn := fun _ => fun
  | [d1, d2, d3] => { results := [.lit (.bool true)], args := [d1, d2, d3] }
  | _ => none }
def idealSelectsRow : OpenClaim := { program := "ytnbnpjhlflcjeaa", sum := "e572652885a459ee1c9f7ed2fd70f35cbf0b3d8bf9d5b2fc2cd7f865a904b8a7", func := "treadle/treadlelaw18.IdealSelects", spec := "idealSelects", inPlace := ["math.Float64frombits", "math.Float64bits"], unfollowed := true, recurses := true, apart := false }
def IdealSelectsSaid : Prop := idealSelectsRow.holds Try.pinned (OpenSpec.ofChange idealSelectsSpec)

/-- ITS FALSE NEIGHBOUR: 'it returns false'. Refute it at one input. -/
def idealSelectsWrong : ChangeSpec := { name := "idealSelects", fn := fun _ => fun
  | [d1, d2, d3] => { results := [.lit (.bool false)], args := [d1, d2, d3] }
  | _ => none }
def IdealSelectsWrongFalsely : Prop := idealSelectsRow.holds Try.pinned (OpenSpec.ofChange idealSelectsWrong)

/-- 'treadlelaw18.IdealAlone': WHATEVER THE INPUT: true; the input reads as it did. -/
def idealAloneSpec : ChangeSpec := { name := "idealAlone", fn := fun _ => fun
  | [d1, d2, d3] => { results := [.lit (.bool true)], args := [d1, d2, d3] }
  | _ => none }
def idealAloneRow : OpenClaim := { program := "ytnbnpjhlflcjeaa", sum := "e572652885a459ee1c9f7ed2fd70f35cbf0b3d8bf9d5b2fc2cd7f865a904b8a7", func := "treadle/treadlelaw18.IdealAlone", spec := "idealAlone", inPlace := ["math.Float64frombits", "math.Float64bits"], unfollowed := true, recurses := true, apart := false }
def IdealAloneSaid : Prop := idealAloneRow.holds Try.pinned (OpenSpec.ofChange idealAloneSpec)

/-- ITS FALSE NEIGHBOUR: 'it returns false'. Refute it at one input. -/
def idealAloneWrong : ChangeSpec := { name := "idealAlone", fn := fun _ => fun
  | [d1, d2, d3] => { results := [.lit (.bool false)], args := [d1, d2, d3] }
  | _ => none }
def IdealAloneWrongFalsely : Prop := idealAloneRow.holds Try.pinned (OpenSpec.ofChange idealAloneWrong)

/-- 'treadlelaw18.IdealInts': WHATEVER THE INPUT: true; the input reads as it did. -/
def idealIntsSpec : ChangeSpec := { name := "idealInts", fn := fun _ => fun
  | [d1, d2, d3] => { results := [.lit (.bool true)], args := [d1, d2, d3] }
  | _ => none }
def idealIntsRow : OpenClaim := { program := "ytnbnpjhlflcjeaa", sum := "e572652885a459ee1c9f7ed2fd70f35cbf0b3d8bf9d5b2fc2cd7f865a904b8a7", func := "treadle/treadlelaw18.IdealInts", spec := "idealInts", inPlace := ["math.Float64frombits", "math.Float64bits"], unfollowed := true, recurses := true, apart := false }
def IdealIntsSaid : Prop := idealIntsRow.holds Try.pinned (OpenSpec.ofChange idealIntsSpec)

/-- ITS FALSE NEIGHBOUR: 'it returns false'. Refute it at one input. -/
def idealIntsWrong : ChangeSpec := { name := "idealInts", fn := fun _ => fun
  | [d1, d2, d3] => { results := [.lit (.bool false)], args := [d1, d2, d3] }
  | _ => none }
def IdealIntsWrongFalsely : Prop := idealIntsRow.holds Try.pinned (OpenSpec.ofChange idealIntsWrong)

/-- 'treadlelaw18.IdealPanics': WHATEVER THE INPUT: true; the input reads as it did. -/
def idealPanicsSpec : ChangeSpec := { name := "idealPanics", fn := fun _ => fun
  | [d1, d2, d3] => { results := [.lit (.bool true)], args := [d1, d2, d3] }
  | _ => none }
def idealPanicsRow : OpenClaim := { program := "ytnbnpjhlflcjeaa", sum := "e572652885a459ee1c9f7ed2fd70f35cbf0b3d8bf9d5b2fc2cd7f865a904b8a7", func := "treadle/treadlelaw18.IdealPanics", spec := "idealPanics", inPlace := ["math.Float64frombits", "math.Float64bits"], unfollowed := true, recurses := true, apart := false }
def IdealPanicsSaid : Prop := idealPanicsRow.holds Try.pinned (OpenSpec.ofChange idealPanicsSpec)

/-- ITS FALSE NEIGHBOUR: 'it returns false'. Refute it at one input. -/
def idealPanicsWrong : ChangeSpec := { name := "idealPanics", fn := fun _ => fun
  | [d1, d2, d3] => { results := [.lit (.bool false)], args := [d1, d2, d3] }
  | _ => none }
def IdealPanicsWrongFalsely : Prop := idealPanicsRow.holds Try.pinned (OpenSpec.ofChange idealPanicsWrong)

/-- 'treadlelaw18.IdealLate': WHATEVER THE INPUT: true; the input reads as it did. -/
def idealLateSpec : ChangeSpec := { name := "idealLate", fn := fun _ => fun
  | [d] => { results := [.lit (.bool true)], args := [d] }
  | _ => none }
def idealLateRow : OpenClaim := { program := "ytnbnpjhlflcjeaa", sum := "e572652885a459ee1c9f7ed2fd70f35cbf0b3d8bf9d5b2fc2cd7f865a904b8a7", func := "treadle/treadlelaw18.IdealLate", spec := "idealLate", inPlace := ["math.Float64frombits", "math.Float64bits"], unfollowed := true, recurses := true, apart := false }
def IdealLateSaid : Prop := idealLateRow.holds Try.pinned (OpenSpec.ofChange idealLateSpec)

/-- ITS FALSE NEIGHBOUR: 'it returns false'. Refute it at one input. -/
def idealLateWrong : ChangeSpec := { name := "idealLate", fn := fun _ => fun
  | [d] => { results := [.lit (.bool false)], args := [d] }
  | _ => none }
def IdealLateWrongFalsely : Prop := idealLateRow.holds Try.pinned (OpenSpec.ofChange idealLateWrong)

/-- 'treadlelaw18.IdealObjects': WHATEVER THE INPUT: true; the input reads as it did. -/
def idealObjectsSpec : ChangeSpec := { name := "idealObjects", fn := fun _ => fun
  | [d1, d2, d3] => { results := [.lit (.bool true)], args := [d1, d2, d3] }
  | _ => none }
def idealObjectsRow : OpenClaim := { program := "ytnbnpjhlflcjeaa", sum := "e572652885a459ee1c9f7ed2fd70f35cbf0b3d8bf9d5b2fc2cd7f865a904b8a7", func := "treadle/treadlelaw18.IdealObjects", spec := "idealObjects", inPlace := ["math.Float64frombits", "math.Float64bits"], unfollowed := true, recurses := true, apart := false }
def IdealObjectsSaid : Prop := idealObjectsRow.holds Try.pinned (OpenSpec.ofChange idealObjectsSpec)

/-- ITS FALSE NEIGHBOUR: 'it returns false'. Refute it at one input. -/
def idealObjectsWrong : ChangeSpec := { name := "idealObjects", fn := fun _ => fun
  | [d1, d2, d3] => { results := [.lit (.bool false)], args := [d1, d2, d3] }
  | _ => none }
def IdealObjectsWrongFalsely : Prop := idealObjectsRow.holds Try.pinned (OpenSpec.ofChange idealObjectsWrong)

/-- 'treadlelaw18.IdealCalls': WHATEVER THE INPUT: true; the input reads as it did. -/
def idealCallsSpec : ChangeSpec := { name := "idealCalls", fn := fun _ => fun
  | [d] => { results := [.lit (.bool true)], args := [d] }
  | _ => none }
def idealCallsRow : OpenClaim := { program := "ytnbnpjhlflcjeaa", sum := "e572652885a459ee1c9f7ed2fd70f35cbf0b3d8bf9d5b2fc2cd7f865a904b8a7", func := "treadle/treadlelaw18.IdealCalls", spec := "idealCalls", inPlace := ["math.Float64frombits", "math.Float64bits"], unfollowed := true, recurses := true, apart := false }
def IdealCallsSaid : Prop := idealCallsRow.holds Try.pinned (OpenSpec.ofChange idealCallsSpec)

/-- ITS FALSE NEIGHBOUR: 'it returns false'. Refute it at one input. -/
def idealCallsWrong : ChangeSpec := { name := "idealCalls", fn := fun _ => fun
  | [d] => { results := [.lit (.bool false)], args := [d] }
  | _ => none }
def IdealCallsWrongFalsely : Prop := idealCallsRow.holds Try.pinned (OpenSpec.ofChange idealCallsWrong)

/-- 'treadlelaw18.IdealSleeps': WHATEVER THE INPUT: true; the input reads as it did. -/
def idealSleepsSpec : ChangeSpec := { name := "idealSleeps", fn := fun _ => fun
  | [d1, d2] => { results := [.lit (.bool true)], args := [d1, d2] }
  | _ => none }
def idealSleepsRow : OpenClaim := { program := "ytnbnpjhlflcjeaa", sum := "e572652885a459ee1c9f7ed2fd70f35cbf0b3d8bf9d5b2fc2cd7f865a904b8a7", func := "treadle/treadlelaw18.IdealSleeps", spec := "idealSleeps", inPlace := ["math.Float64frombits", "math.Float64bits"], unfollowed := true, recurses := true, apart := false }
def IdealSleepsSaid : Prop := idealSleepsRow.holds Try.pinned (OpenSpec.ofChange idealSleepsSpec)

/-- ITS FALSE NEIGHBOUR: 'it returns false'. Refute it at one input. -/
def idealSleepsWrong : ChangeSpec := { name := "idealSleeps", fn := fun _ => fun
  | [d1, d2] => { results := [.lit (.bool false)], args := [d1, d2] }
  | _ => none }
def IdealSleepsWrongFalsely : Prop := idealSleepsRow.holds Try.pinned (OpenSpec.ofChange idealSleepsWrong)

/-- 'treadlelaw18.IdealFloats': WHATEVER THE INPUT: true; the input reads as it did. -/
def idealFloatsSpec : ChangeSpec := { name := "idealFloats", fn := fun _ => fun
  | [d1, d2, d3] => { results := [.lit (.bool true)], args := [d1, d2, d3] }
  | _ => none }
def idealFloatsRow : OpenClaim := { program := "ytnbnpjhlflcjeaa", sum := "e572652885a459ee1c9f7ed2fd70f35cbf0b3d8bf9d5b2fc2cd7f865a904b8a7", func := "treadle/treadlelaw18.IdealFloats", spec := "idealFloats", inPlace := ["math.Float64frombits", "math.Float64bits"], unfollowed := true, recurses := true, apart := false }
def IdealFloatsSaid : Prop := idealFloatsRow.holds Try.pinned (OpenSpec.ofChange idealFloatsSpec)

/-- ITS FALSE NEIGHBOUR: 'it returns false'. Refute it at one input. -/
def idealFloatsWrong : ChangeSpec := { name := "idealFloats", fn := fun _ => fun
  | [d1, d2, d3] => { results := [.lit (.bool false)], args := [d1, d2, d3] }
  | _ => none }
def IdealFloatsWrongFalsely : Prop := idealFloatsRow.holds Try.pinned (OpenSpec.ofChange idealFloatsWrong)

/-- 'treadlelaw18.IdealNext': WHATEVER THE INPUT: true; the input reads as it did. -/
def idealNextSpec : ChangeSpec := { name := "idealNext", fn := fun _ => fun
  | [d1, d2] => { results := [.lit (.bool true)], args := [d1, d2] }
  | _ => none }
def idealNextRow : OpenClaim := { program := "ytnbnpjhlflcjeaa", sum := "e572652885a459ee1c9f7ed2fd70f35cbf0b3d8bf9d5b2fc2cd7f865a904b8a7", func := "treadle/treadlelaw18.IdealNext", spec := "idealNext", inPlace := ["math.Float64frombits", "math.Float64bits"], unfollowed := true, recurses := true, apart := false }
def IdealNextSaid : Prop := idealNextRow.holds Try.pinned (OpenSpec.ofChange idealNextSpec)

/-- ITS FALSE NEIGHBOUR: 'it returns false'. Refute it at one input. -/
def idealNextWrong : ChangeSpec := { name := "idealNext", fn := fun _ => fun
  | [d1, d2] => { results := [.lit (.bool false)], args := [d1, d2] }
  | _ => none }
def IdealNextWrongFalsely : Prop := idealNextRow.holds Try.pinned (OpenSpec.ofChange idealNextWrong)

/-- 'treadlelaw18.IdealReach': WHATEVER THE INPUT: true; the input reads as it did. -/
def idealReachSpec : ChangeSpec := { name := "idealReach", fn := fun _ => fun
  | [d] => { results := [.lit (.bool true)], args := [d] }
  | _ => none }
def idealReachRow : OpenClaim := { program := "ytnbnpjhlflcjeaa", sum := "e572652885a459ee1c9f7ed2fd70f35cbf0b3d8bf9d5b2fc2cd7f865a904b8a7", func := "treadle/treadlelaw18.IdealReach", spec := "idealReach", inPlace := ["math.Float64frombits", "math.Float64bits"], unfollowed := true, recurses := true, apart := false }
def IdealReachSaid : Prop := idealReachRow.holds Try.pinned (OpenSpec.ofChange idealReachSpec)

/-- ITS FALSE NEIGHBOUR: 'it returns false'. Refute it at one input. -/
def idealReachWrong : ChangeSpec := { name := "idealReach", fn := fun _ => fun
  | [d] => { results := [.lit (.bool false)], args := [d] }
  | _ => none }
def IdealReachWrongFalsely : Prop := idealReachRow.holds Try.pinned (OpenSpec.ofChange idealReachWrong)

/- THE SECOND FORM. 'bulk': how many values and letters a reading holds, each counted each time it is reached (what is shared counts as often as it is met; a slice's spare places count too). A statement '..UptoSaid' is the law's where the arguments, and the package variables that the reading takes, are together of bulk at most 1048576: NARROWER than '..Said'. Prove '..Said' where nothing that the law and all that it calls make is longer than what came in: it says more and counts as full. Else prove '..UptoSaid'. A law counts once. -/
mutual
def uptoBulk {H : Type} : DataW H → Nat
  | .lit (.string bytes) => bytes.length + 1
  | .lit _ => 1
  | .nil => 1
  | .ptr d => uptoBulk d + 1
  | .slice elems spare => uptoBulkAll elems + uptoBulkAll spare + 1
  | .agg parts => uptoBulkAll parts + 1
  | .iface _ d => uptoBulk d + 1
  | .map entries => uptoBulkEntries entries + 1
  | .held _ => 1
def uptoBulkAll {H : Type} : List (DataW H) → Nat
  | [] => 0
  | d :: r => uptoBulk d + uptoBulkAll r
def uptoBulkEntries {H : Type} : List (Lit × DataW H) → Nat
  | [] => 0
  | x :: r => uptoBulkEntry x + uptoBulkEntries r
def uptoBulkEntry {H : Type} : Lit × DataW H → Nat
  | (.string bytes, d) => bytes.length + uptoBulk d + 1
  | (_, d) => uptoBulk d + 1
 end
def uptoSmall : (H : Type) → List (DataW H) → Bool := fun _ ds => decide (uptoBulkAll ds ≤ 1048576)
def OpenSpec.upto (s : _root_.Go.ChangeSpec) : _root_.Go.OpenSpec := { _root_.Go.OpenSpec.ofChange s with cond := some uptoSmall }

/-- 'treadlelaw18.IdealSelects', WHERE WHAT IT READS IS OF BULK AT MOST 1048576: true; the input reads as it did. -/
def idealSelectsUptoRow : OpenClaim := { program := "ytnbnpjhlflcjeaa", sum := "e572652885a459ee1c9f7ed2fd70f35cbf0b3d8bf9d5b2fc2cd7f865a904b8a7", func := "treadle/treadlelaw18.IdealSelects", spec := "idealSelects", inPlace := ["math.Float64frombits", "math.Float64bits"], unfollowed := true, recurses := true, apart := false, narrowed := true }
def IdealSelectsUptoSaid : Prop := idealSelectsUptoRow.holds Try.pinned (OpenSpec.upto idealSelectsSpec)

/-- 'treadlelaw18.IdealAlone', WHERE WHAT IT READS IS OF BULK AT MOST 1048576: true; the input reads as it did. -/
def idealAloneUptoRow : OpenClaim := { program := "ytnbnpjhlflcjeaa", sum := "e572652885a459ee1c9f7ed2fd70f35cbf0b3d8bf9d5b2fc2cd7f865a904b8a7", func := "treadle/treadlelaw18.IdealAlone", spec := "idealAlone", inPlace := ["math.Float64frombits", "math.Float64bits"], unfollowed := true, recurses := true, apart := false, narrowed := true }
def IdealAloneUptoSaid : Prop := idealAloneUptoRow.holds Try.pinned (OpenSpec.upto idealAloneSpec)

/-- 'treadlelaw18.IdealInts', WHERE WHAT IT READS IS OF BULK AT MOST 1048576: true; the input reads as it did. -/
def idealIntsUptoRow : OpenClaim := { program := "ytnbnpjhlflcjeaa", sum := "e572652885a459ee1c9f7ed2fd70f35cbf0b3d8bf9d5b2fc2cd7f865a904b8a7", func := "treadle/treadlelaw18.IdealInts", spec := "idealInts", inPlace := ["math.Float64frombits", "math.Float64bits"], unfollowed := true, recurses := true, apart := false, narrowed := true }
def IdealIntsUptoSaid : Prop := idealIntsUptoRow.holds Try.pinned (OpenSpec.upto idealIntsSpec)

/-- 'treadlelaw18.IdealPanics', WHERE WHAT IT READS IS OF BULK AT MOST 1048576: true; the input reads as it did. -/
def idealPanicsUptoRow : OpenClaim := { program := "ytnbnpjhlflcjeaa", sum := "e572652885a459ee1c9f7ed2fd70f35cbf0b3d8bf9d5b2fc2cd7f865a904b8a7", func := "treadle/treadlelaw18.IdealPanics", spec := "idealPanics", inPlace := ["math.Float64frombits", "math.Float64bits"], unfollowed := true, recurses := true, apart := false, narrowed := true }
def IdealPanicsUptoSaid : Prop := idealPanicsUptoRow.holds Try.pinned (OpenSpec.upto idealPanicsSpec)

/-- 'treadlelaw18.IdealLate', WHERE WHAT IT READS IS OF BULK AT MOST 1048576: true; the input reads as it did. -/
def idealLateUptoRow : OpenClaim := { program := "ytnbnpjhlflcjeaa", sum := "e572652885a459ee1c9f7ed2fd70f35cbf0b3d8bf9d5b2fc2cd7f865a904b8a7", func := "treadle/treadlelaw18.IdealLate", spec := "idealLate", inPlace := ["math.Float64frombits", "math.Float64bits"], unfollowed := true, recurses := true, apart := false, narrowed := true }
def IdealLateUptoSaid : Prop := idealLateUptoRow.holds Try.pinned (OpenSpec.upto idealLateSpec)

/-- 'treadlelaw18.IdealObjects', WHERE WHAT IT READS IS OF BULK AT MOST 1048576: true; the input reads as it did. -/
def idealObjectsUptoRow : OpenClaim := { program := "ytnbnpjhlflcjeaa", sum := "e572652885a459ee1c9f7ed2fd70f35cbf0b3d8bf9d5b2fc2cd7f865a904b8a7", func := "treadle/treadlelaw18.IdealObjects", spec := "idealObjects", inPlace := ["math.Float64frombits", "math.Float64bits"], unfollowed := true, recurses := true, apart := false, narrowed := true }
def IdealObjectsUptoSaid : Prop := idealObjectsUptoRow.holds Try.pinned (OpenSpec.upto idealObjectsSpec)

/-- 'treadlelaw18.IdealCalls', WHERE WHAT IT READS IS OF BULK AT MOST 1048576: true; the input reads as it did. -/
def idealCallsUptoRow : OpenClaim := { program := "ytnbnpjhlflcjeaa", sum := "e572652885a459ee1c9f7ed2fd70f35cbf0b3d8bf9d5b2fc2cd7f865a904b8a7", func := "treadle/treadlelaw18.IdealCalls", spec := "idealCalls", inPlace := ["math.Float64frombits", "math.Float64bits"], unfollowed := true, recurses := true, apart := false, narrowed := true }
def IdealCallsUptoSaid : Prop := idealCallsUptoRow.holds Try.pinned (OpenSpec.upto idealCallsSpec)

/-- 'treadlelaw18.IdealSleeps', WHERE WHAT IT READS IS OF BULK AT MOST 1048576: true; the input reads as it did. -/
def idealSleepsUptoRow : OpenClaim := { program := "ytnbnpjhlflcjeaa", sum := "e572652885a459ee1c9f7ed2fd70f35cbf0b3d8bf9d5b2fc2cd7f865a904b8a7", func := "treadle/treadlelaw18.IdealSleeps", spec := "idealSleeps", inPlace := ["math.Float64frombits", "math.Float64bits"], unfollowed := true, recurses := true, apart := false, narrowed := true }
def IdealSleepsUptoSaid : Prop := idealSleepsUptoRow.holds Try.pinned (OpenSpec.upto idealSleepsSpec)

/-- 'treadlelaw18.IdealFloats', WHERE WHAT IT READS IS OF BULK AT MOST 1048576: true; the input reads as it did. -/
def idealFloatsUptoRow : OpenClaim := { program := "ytnbnpjhlflcjeaa", sum := "e572652885a459ee1c9f7ed2fd70f35cbf0b3d8bf9d5b2fc2cd7f865a904b8a7", func := "treadle/treadlelaw18.IdealFloats", spec := "idealFloats", inPlace := ["math.Float64frombits", "math.Float64bits"], unfollowed := true, recurses := true, apart := false, narrowed := true }
def IdealFloatsUptoSaid : Prop := idealFloatsUptoRow.holds Try.pinned (OpenSpec.upto idealFloatsSpec)

/-- 'treadlelaw18.IdealNext', WHERE WHAT IT READS IS OF BULK AT MOST 1048576: true; the input reads as it did. -/
def idealNextUptoRow : OpenClaim := { program := "ytnbnpjhlflcjeaa", sum := "e572652885a459ee1c9f7ed2fd70f35cbf0b3d8bf9d5b2fc2cd7f865a904b8a7", func := "treadle/treadlelaw18.IdealNext", spec := "idealNext", inPlace := ["math.Float64frombits", "math.Float64bits"], unfollowed := true, recurses := true, apart := false, narrowed := true }
def IdealNextUptoSaid : Prop := idealNextUptoRow.holds Try.pinned (OpenSpec.upto idealNextSpec)

/-- 'treadlelaw18.IdealReach', WHERE WHAT IT READS IS OF BULK AT MOST 1048576: true; the input reads as it did. -/
def idealReachUptoRow : OpenClaim := { program := "ytnbnpjhlflcjeaa", sum := "e572652885a459ee1c9f7ed2fd70f35cbf0b3d8bf9d5b2fc2cd7f865a904b8a7", func := "treadle/treadlelaw18.IdealReach", spec := "idealReach", inPlace := ["math.Float64frombits", "math.Float64bits"], unfollowed := true, recurses := true, apart := false, narrowed := true }
def IdealReachUptoSaid : Prop := idealReachUptoRow.holds Try.pinned (OpenSpec.upto idealReachSpec)

end Rows
end Go.Proofs.Ytnbnpjhlflcjeaa
