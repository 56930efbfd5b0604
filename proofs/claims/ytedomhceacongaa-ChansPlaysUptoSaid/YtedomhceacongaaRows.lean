/-
  No cell of these rows narrows 'for every input' (looked for: loops, veiled, ifaces, maps, wideKeys, modest, calm, conditions, laid).
  DERIVED. THE GIVEN ROWS OF THIS SEAT. 6 by the template 'for every input the law returns true; each argument reads behind the call as it read before'; 0 by the template 'total and deterministic' (their statements: YtedomhceacongaaTotals.lean).
  GIVEN WITH THE SEED: the statements are not yours to turn. If you find one false, say at which input.
  Laid BY PROGRAM, IN A SANDBOX (cutbox-rows.mjs): the forced cells as the released guide's own fill.sh prints them over the translation bfda9ab390c1d1ec… (all of the seat's roots in one cut). By AI agents, Wed Nov 11 2026. No macro, syntax, notation, axiom, sorry.
-/
import Derived.Test.YtedomhceacongaaChecked
import GoSem.Claim
import GoSem.ClaimJoined
import GoSem.ClaimMapViews
import Derived.JoinedTies
import Derived.KernelRfl
namespace Go.Proofs.Ytedomhceacongaa
/- THE CELL 'sum', in the pinned program and in every row, IS THE sha256 OF THE DUMP (.gsa) THAT YtedomhceacongaaProg.lean LOADS. Nothing in Lean hashes anything: it is a label: what it is worth is what the hold of that sum in a sandbox is worth. -/
noncomputable def Try.pinned : Pinned := { name := "ytedomhceacongaa", sum := "bfda9ab390c1d1ec274a703744a1cd4bd92da89a82380726e58bb79d8fa4929e", checked := Try.checked }
namespace Rows
def none {H : Type} : Left H := { results := [], args := [] }

/-- 'treadlelaw12.ChansFixed': WHATEVER THE INPUT: true; the input reads as it did. -/
def chansFixedSpec : ChangeSpec := { name := "chansFixed", fn := fun _ => fun
  | [] => { results := [.lit (.bool true)], args := [] }
  | _ => none }
def chansFixedRow : OpenClaim := { program := "ytedomhceacongaa", sum := "bfda9ab390c1d1ec274a703744a1cd4bd92da89a82380726e58bb79d8fa4929e", func := "treadle/treadlelaw12.ChansFixed", spec := "chansFixed", apart := false }
def ChansFixedSaid : Prop := chansFixedRow.holds Try.pinned (OpenSpec.ofChange chansFixedSpec)

/-- ITS FALSE NEIGHBOUR: 'it returns false'. Refute it at one input. -/
def chansFixedWrong : ChangeSpec := { name := "chansFixed", fn := fun _ => fun
  | [] => { results := [.lit (.bool false)], args := [] }
  | _ => none }
def ChansFixedWrongFalsely : Prop := chansFixedRow.holds Try.pinned (OpenSpec.ofChange chansFixedWrong)

/-- 'treadlelaw12.ChansOrder': WHATEVER THE INPUT: true; the input reads as it did. -/
def chansOrderSpec : ChangeSpec := { name := "chansOrder", fn := fun _ => fun
  | [d1, d2] => { results := [.lit (.bool true)], args := [d1, d2] }
  | _ => none }
def chansOrderRow : OpenClaim := { program := "ytedomhceacongaa", sum := "bfda9ab390c1d1ec274a703744a1cd4bd92da89a82380726e58bb79d8fa4929e", func := "treadle/treadlelaw12.ChansOrder", spec := "chansOrder", apart := false }
def ChansOrderSaid : Prop := chansOrderRow.holds Try.pinned (OpenSpec.ofChange chansOrderSpec)

/-- ITS FALSE NEIGHBOUR: 'it returns false'. Refute it at one input. -/
def chansOrderWrong : ChangeSpec := { name := "chansOrder", fn := fun _ => fun
  | [d1, d2] => { results := [.lit (.bool false)], args := [d1, d2] }
  | _ => none }
def ChansOrderWrongFalsely : Prop := chansOrderRow.holds Try.pinned (OpenSpec.ofChange chansOrderWrong)

/-- 'treadlelaw12.ChansLeave': WHATEVER THE INPUT: true; the input reads as it did. -/
def chansLeaveSpec : ChangeSpec := { name := "chansLeave", fn := fun _ => fun
  | [d1, d2] => { results := [.lit (.bool true)], args := [d1, d2] }
  | _ => none }
def chansLeaveRow : OpenClaim := { program := "ytedomhceacongaa", sum := "bfda9ab390c1d1ec274a703744a1cd4bd92da89a82380726e58bb79d8fa4929e", func := "treadle/treadlelaw12.ChansLeave", spec := "chansLeave", apart := false }
def ChansLeaveSaid : Prop := chansLeaveRow.holds Try.pinned (OpenSpec.ofChange chansLeaveSpec)

/-- ITS FALSE NEIGHBOUR: 'it returns false'. Refute it at one input. -/
def chansLeaveWrong : ChangeSpec := { name := "chansLeave", fn := fun _ => fun
  | [d1, d2] => { results := [.lit (.bool false)], args := [d1, d2] }
  | _ => none }
def ChansLeaveWrongFalsely : Prop := chansLeaveRow.holds Try.pinned (OpenSpec.ofChange chansLeaveWrong)

/-- 'treadlelaw12.ChansClosed': WHATEVER THE INPUT: true; the input reads as it did. -/
def chansClosedSpec : ChangeSpec := { name := "chansClosed", fn := fun _ => fun
  | [d1, d2] => { results := [.lit (.bool true)], args := [d1, d2] }
  | _ => none }
def chansClosedRow : OpenClaim := { program := "ytedomhceacongaa", sum := "bfda9ab390c1d1ec274a703744a1cd4bd92da89a82380726e58bb79d8fa4929e", func := "treadle/treadlelaw12.ChansClosed", spec := "chansClosed", apart := false }
def ChansClosedSaid : Prop := chansClosedRow.holds Try.pinned (OpenSpec.ofChange chansClosedSpec)

/-- ITS FALSE NEIGHBOUR: 'it returns false'. Refute it at one input. -/
def chansClosedWrong : ChangeSpec := { name := "chansClosed", fn := fun _ => fun
  | [d1, d2] => { results := [.lit (.bool false)], args := [d1, d2] }
  | _ => none }
def ChansClosedWrongFalsely : Prop := chansClosedRow.holds Try.pinned (OpenSpec.ofChange chansClosedWrong)

/-- 'treadlelaw12.ChansPlays': WHATEVER THE INPUT: true; the input reads as it did. -/
def chansPlaysSpec : ChangeSpec := { name := "chansPlays", fn := fun _ => fun
  | [d1, d2] => { results := [.lit (.bool true)], args := [d1, d2] }
  | _ => none }
def chansPlaysRow : OpenClaim := { program := "ytedomhceacongaa", sum := "bfda9ab390c1d1ec274a703744a1cd4bd92da89a82380726e58bb79d8fa4929e", func := "treadle/treadlelaw12.ChansPlays", spec := "chansPlays", apart := false }
def ChansPlaysSaid : Prop := chansPlaysRow.holds Try.pinned (OpenSpec.ofChange chansPlaysSpec)

/-- ITS FALSE NEIGHBOUR: 'it returns false'. Refute it at one input. -/
def chansPlaysWrong : ChangeSpec := { name := "chansPlays", fn := fun _ => fun
  | [d1, d2] => { results := [.lit (.bool false)], args := [d1, d2] }
  | _ => none }
def ChansPlaysWrongFalsely : Prop := chansPlaysRow.holds Try.pinned (OpenSpec.ofChange chansPlaysWrong)

/-- 'treadlelaw12.ChansNone': WHATEVER THE INPUT: true; the input reads as it did. -/
def chansNoneSpec : ChangeSpec := { name := "chansNone", fn := fun _ => fun
  | [d] => { results := [.lit (.bool true)], args := [d] }
  | _ => none }
def chansNoneRow : OpenClaim := { program := "ytedomhceacongaa", sum := "bfda9ab390c1d1ec274a703744a1cd4bd92da89a82380726e58bb79d8fa4929e", func := "treadle/treadlelaw12.ChansNone", spec := "chansNone", apart := false }
def ChansNoneSaid : Prop := chansNoneRow.holds Try.pinned (OpenSpec.ofChange chansNoneSpec)

/-- ITS FALSE NEIGHBOUR: 'it returns false'. Refute it at one input. -/
def chansNoneWrong : ChangeSpec := { name := "chansNone", fn := fun _ => fun
  | [d] => { results := [.lit (.bool false)], args := [d] }
  | _ => none }
def ChansNoneWrongFalsely : Prop := chansNoneRow.holds Try.pinned (OpenSpec.ofChange chansNoneWrong)

/- THE SECOND FORM. 'bulk': how many values and letters a reading holds, each counted each time it is reached (what is shared counts as often as it is met; a slice's spare places count too). A statement '..UptoSaid' is the law's where the arguments, and the package variables that the reading takes, are together of bulk at most 1048576: NARROWER than '..Said'. Prove '..Said' where nothing that the law and all that it calls make is longer than what came in: it says more and counts as full. Else prove '..UptoSaid'. A law counts once. -/
mutual
def uptoBulk {H : Type} : DataW H → Nat
  | .lit (.string bytes) => bytes.length + 1
  | .lit _ => 1
  | .nil => 1
  | .ptr d => uptoBulk d + 1
  | .slice elems spare => uptoBulkAll elems + uptoBulkAll spare + 1
  | .agg parts => uptoBulkAll parts + 1
  | .iface _ d => uptoBulk d + 1
  | .map entries => uptoBulkEntries entries + 1
  | .held _ => 1
def uptoBulkAll {H : Type} : List (DataW H) → Nat
  | [] => 0
  | d :: r => uptoBulk d + uptoBulkAll r
def uptoBulkEntries {H : Type} : List (Lit × DataW H) → Nat
  | [] => 0
  | x :: r => uptoBulkEntry x + uptoBulkEntries r
def uptoBulkEntry {H : Type} : Lit × DataW H → Nat
  | (.string bytes, d) => bytes.length + uptoBulk d + 1
  | (_, d) => uptoBulk d + 1
 end
def uptoSmall : (H : Type) → List (DataW H) → Bool := fun _ ds => decide (uptoBulkAll ds ≤ 1048576)
def OpenSpec.upto (s : _root_.Go.ChangeSpec) : _root_.Go.OpenSpec := { _root_.Go.OpenSpec.ofChange s with cond := some uptoSmall }

/-- 'treadlelaw12.ChansFixed', WHERE WHAT IT READS IS OF BULK AT MOST 1048576: true; the input reads as it did. -/
def chansFixedUptoRow : OpenClaim := { program := "ytedomhceacongaa", sum := "bfda9ab390c1d1ec274a703744a1cd4bd92da89a82380726e58bb79d8fa4929e", func := "treadle/treadlelaw12.ChansFixed", spec := "chansFixed", apart := false, narrowed := true }
def ChansFixedUptoSaid : Prop := chansFixedUptoRow.holds Try.pinned (OpenSpec.upto chansFixedSpec)

/-- 'treadlelaw12.ChansOrder', WHERE WHAT IT READS IS OF BULK AT MOST 1048576: true; the input reads as it did. -/
def chansOrderUptoRow : OpenClaim := { program := "ytedomhceacongaa", sum := "bfda9ab390c1d1ec274a703744a1cd4bd92da89a82380726e58bb79d8fa4929e", func := "treadle/treadlelaw12.ChansOrder", spec := "chansOrder", apart := false, narrowed := true }
def ChansOrderUptoSaid : Prop := chansOrderUptoRow.holds Try.pinned (OpenSpec.upto chansOrderSpec)

/-- 'treadlelaw12.ChansLeave', WHERE WHAT IT READS IS OF BULK AT MOST 1048576: true; the input reads as it did. -/
def chansLeaveUptoRow : OpenClaim := { program := "ytedomhceacongaa", sum := "bfda9ab390c1d1ec274a703744a1cd4bd92da89a82380726e58bb79d8fa4929e", func := "treadle/treadlelaw12.ChansLeave", spec := "chansLeave", apart := false, narrowed := true }
def ChansLeaveUptoSaid : Prop := chansLeaveUptoRow.holds Try.pinned (OpenSpec.upto chansLeaveSpec)

/-- 'treadlelaw12.ChansClosed', WHERE WHAT IT READS IS OF BULK AT MOST 1048576: true; the input reads as it did. -/
def chansClosedUptoRow : OpenClaim := { program := "ytedomhceacongaa", sum := "bfda9ab390c1d1ec274a703744a1cd4bd92da89a82380726e58bb79d8fa4929e", func := "treadle/treadlelaw12.ChansClosed", spec := "chansClosed", apart := false, narrowed := true }
def ChansClosedUptoSaid : Prop := chansClosedUptoRow.holds Try.pinned (OpenSpec.upto chansClosedSpec)

/-- 'treadlelaw12.ChansPlays', WHERE WHAT IT READS IS OF BULK AT MOST 1048576: true; the input reads as it did. -/
def chansPlaysUptoRow : OpenClaim := { program := "ytedomhceacongaa", sum := "bfda9ab390c1d1ec274a703744a1cd4bd92da89a82380726e58bb79d8fa4929e", func := "treadle/treadlelaw12.ChansPlays", spec := "chansPlays", apart := false, narrowed := true }
def ChansPlaysUptoSaid : Prop := chansPlaysUptoRow.holds Try.pinned (OpenSpec.upto chansPlaysSpec)

/-- 'treadlelaw12.ChansNone', WHERE WHAT IT READS IS OF BULK AT MOST 1048576: true; the input reads as it did. -/
def chansNoneUptoRow : OpenClaim := { program := "ytedomhceacongaa", sum := "bfda9ab390c1d1ec274a703744a1cd4bd92da89a82380726e58bb79d8fa4929e", func := "treadle/treadlelaw12.ChansNone", spec := "chansNone", apart := false, narrowed := true }
def ChansNoneUptoSaid : Prop := chansNoneUptoRow.holds Try.pinned (OpenSpec.upto chansNoneSpec)

end Rows
end Go.Proofs.Ytedomhceacongaa
