/-
  NARROWER THAN 'FOR EVERY INPUT', by the rows' own cells (each row's printed sentence says how): PagesFirst: laid · PagesBack: laid · PagesPlays: laid · PagesFixed: laid · SpanFixed: laid · SpanPlays: laid · SpanBack: laid · CellApart: laid · CellOwn: laid · CellFixed: laid · CellPlays: laid · CellBack: laid.
  DERIVED. THE GIVEN ROWS OF THIS SEAT. 12 by the template 'for every input the law returns true; each argument reads behind the call as it read before'; 0 by the template 'total and deterministic' (their statements: YthillgheddpmhaaDoorTotals.lean).
  GIVEN WITH THE SEED: the statements are not yours to turn. If you find one false, say at which input.
  Laid BY PROGRAM, IN A SANDBOX (cutbox-rows.mjs): the forced cells as the released guide's own fill.sh prints them over the translation 3347e1b0d39e397f… (all of the seat's roots in one cut). By AI agents, Wed Nov 11 2026. No macro, syntax, notation, axiom, sorry.
-/
import Derived.Test.YthillgheddpmhaaDoorChecked
import GoSem.Claim
import GoSem.ClaimJoined
import GoSem.ClaimMapViews
import Derived.JoinedTies
import Derived.KernelRfl
namespace Go.Proofs.YthillgheddpmhaaDoor
/- THE CELL 'sum', in the pinned program and in every row, IS THE sha256 OF THE DUMP (.gsa) THAT YthillgheddpmhaaDoorProg.lean LOADS. Nothing in Lean hashes anything: it is a label: what it is worth is what the hold of that sum in a sandbox is worth. -/
noncomputable def Tryd.pinned : Pinned := { name := "ythillgheddpmhaadoor", sum := "3347e1b0d39e397fe56a0218c6cda16371f00667fb6cca7be9c76ba3942804b5", checked := Tryd.checked }
namespace Rows
def none {H : Type} : Left H := { results := [], args := [] }

/- WHAT THE LISTED PACKAGE-LEVEL VARIABLES READ AS WHEN THE CALL BEGINS. Each datum BY PROGRAM (the guide's laid-datum.mjs) off the statement by which the dump's own 'gosem.cut.vars' lays the variable. In a bare row this is a premise. The card (YthillgheddpmhaaDoorCards.lean) ties it to the program's text. -/
def laid_math_bits_deBruijn64tab {H : Type} : DataW H := .agg [.lit (.int .u8 0), .lit (.int .u8 1), .lit (.int .u8 56), .lit (.int .u8 2), .lit (.int .u8 57), .lit (.int .u8 49), .lit (.int .u8 28), .lit (.int .u8 3), .lit (.int .u8 61), .lit (.int .u8 58), .lit (.int .u8 42), .lit (.int .u8 50), .lit (.int .u8 38), .lit (.int .u8 29), .lit (.int .u8 17), .lit (.int .u8 4), .lit (.int .u8 62), .lit (.int .u8 47), .lit (.int .u8 59), .lit (.int .u8 36), .lit (.int .u8 45), .lit (.int .u8 43), .lit (.int .u8 51), .lit (.int .u8 22), .lit (.int .u8 53), .lit (.int .u8 39), .lit (.int .u8 33), .lit (.int .u8 30), .lit (.int .u8 24), .lit (.int .u8 18), .lit (.int .u8 12), .lit (.int .u8 5), .lit (.int .u8 63), .lit (.int .u8 55), .lit (.int .u8 48), .lit (.int .u8 27), .lit (.int .u8 60), .lit (.int .u8 41), .lit (.int .u8 37), .lit (.int .u8 16), .lit (.int .u8 46), .lit (.int .u8 35), .lit (.int .u8 44), .lit (.int .u8 21), .lit (.int .u8 52), .lit (.int .u8 32), .lit (.int .u8 23), .lit (.int .u8 11), .lit (.int .u8 54), .lit (.int .u8 26), .lit (.int .u8 40), .lit (.int .u8 15), .lit (.int .u8 34), .lit (.int .u8 20), .lit (.int .u8 31), .lit (.int .u8 10), .lit (.int .u8 25), .lit (.int .u8 14), .lit (.int .u8 19), .lit (.int .u8 9), .lit (.int .u8 13), .lit (.int .u8 8), .lit (.int .u8 7), .lit (.int .u8 6)]

/-- 'treadlelaw04.PagesFirst': WHATEVER THE INPUT: true; the input reads as it did. -/
def pagesFirstSpec : ChangeSpec := { name := "pagesFirst", fn := fun _ => fun
  | [d1, d2, d3] => { results := [.lit (.bool true)], args := [d1, d2, d3] }
  | _ => none }
def pagesFirstRow : OpenClaim := { program := "ythillgheddpmhaadoor", sum := "3347e1b0d39e397fe56a0218c6cda16371f00667fb6cca7be9c76ba3942804b5", func := "treadle/treadlelaw04.PagesFirst", spec := "pagesFirst", named := ["math/bits.deBruijn64tab"], apart := false, laid := [("math/bits.deBruijn64tab", laid_math_bits_deBruijn64tab)] }
def PagesFirstSaid : Prop := pagesFirstRow.holds Tryd.pinned (OpenSpec.ofChange pagesFirstSpec)

/-- ITS FALSE NEIGHBOUR: 'it returns false'. Refute it at one input. -/
def pagesFirstWrong : ChangeSpec := { name := "pagesFirst", fn := fun _ => fun
  | [d1, d2, d3] => { results := [.lit (.bool false)], args := [d1, d2, d3] }
  | _ => none }
def PagesFirstWrongFalsely : Prop := pagesFirstRow.holds Tryd.pinned (OpenSpec.ofChange pagesFirstWrong)

/-- 'treadlelaw04.PagesBack': WHATEVER THE INPUT: true; the input reads as it did. -/
def pagesBackSpec : ChangeSpec := { name := "pagesBack", fn := fun _ => fun
  | [d1, d2] => { results := [.lit (.bool true)], args := [d1, d2] }
  | _ => none }
def pagesBackRow : OpenClaim := { program := "ythillgheddpmhaadoor", sum := "3347e1b0d39e397fe56a0218c6cda16371f00667fb6cca7be9c76ba3942804b5", func := "treadle/treadlelaw04.PagesBack", spec := "pagesBack", unfollowed := true, recurses := true, named := ["math/bits.deBruijn64tab"], apart := false, laid := [("math/bits.deBruijn64tab", laid_math_bits_deBruijn64tab)] }
def PagesBackSaid : Prop := pagesBackRow.holds Tryd.pinned (OpenSpec.ofChange pagesBackSpec)

/-- ITS FALSE NEIGHBOUR: 'it returns false'. Refute it at one input. -/
def pagesBackWrong : ChangeSpec := { name := "pagesBack", fn := fun _ => fun
  | [d1, d2] => { results := [.lit (.bool false)], args := [d1, d2] }
  | _ => none }
def PagesBackWrongFalsely : Prop := pagesBackRow.holds Tryd.pinned (OpenSpec.ofChange pagesBackWrong)

/-- 'treadlelaw04.PagesPlays': WHATEVER THE INPUT: true; the input reads as it did. -/
def pagesPlaysSpec : ChangeSpec := { name := "pagesPlays", fn := fun _ => fun
  | [d1, d2] => { results := [.lit (.bool true)], args := [d1, d2] }
  | _ => none }
def pagesPlaysRow : OpenClaim := { program := "ythillgheddpmhaadoor", sum := "3347e1b0d39e397fe56a0218c6cda16371f00667fb6cca7be9c76ba3942804b5", func := "treadle/treadlelaw04.PagesPlays", spec := "pagesPlays", unfollowed := true, recurses := true, named := ["math/bits.deBruijn64tab"], apart := false, laid := [("math/bits.deBruijn64tab", laid_math_bits_deBruijn64tab)] }
def PagesPlaysSaid : Prop := pagesPlaysRow.holds Tryd.pinned (OpenSpec.ofChange pagesPlaysSpec)

/-- ITS FALSE NEIGHBOUR: 'it returns false'. Refute it at one input. -/
def pagesPlaysWrong : ChangeSpec := { name := "pagesPlays", fn := fun _ => fun
  | [d1, d2] => { results := [.lit (.bool false)], args := [d1, d2] }
  | _ => none }
def PagesPlaysWrongFalsely : Prop := pagesPlaysRow.holds Tryd.pinned (OpenSpec.ofChange pagesPlaysWrong)

/-- 'treadlelaw04.PagesFixed': WHATEVER THE INPUT: true; the input reads as it did. -/
def pagesFixedSpec : ChangeSpec := { name := "pagesFixed", fn := fun _ => fun
  | [] => { results := [.lit (.bool true)], args := [] }
  | _ => none }
def pagesFixedRow : OpenClaim := { program := "ythillgheddpmhaadoor", sum := "3347e1b0d39e397fe56a0218c6cda16371f00667fb6cca7be9c76ba3942804b5", func := "treadle/treadlelaw04.PagesFixed", spec := "pagesFixed", unfollowed := true, recurses := true, named := ["math/bits.deBruijn64tab"], apart := false, laid := [("math/bits.deBruijn64tab", laid_math_bits_deBruijn64tab)] }
def PagesFixedSaid : Prop := pagesFixedRow.holds Tryd.pinned (OpenSpec.ofChange pagesFixedSpec)

/-- ITS FALSE NEIGHBOUR: 'it returns false'. Refute it at one input. -/
def pagesFixedWrong : ChangeSpec := { name := "pagesFixed", fn := fun _ => fun
  | [] => { results := [.lit (.bool false)], args := [] }
  | _ => none }
def PagesFixedWrongFalsely : Prop := pagesFixedRow.holds Tryd.pinned (OpenSpec.ofChange pagesFixedWrong)

/-- 'treadlelaw05.SpanFixed': WHATEVER THE INPUT: true; the input reads as it did. -/
def spanFixedSpec : ChangeSpec := { name := "spanFixed", fn := fun _ => fun
  | [] => { results := [.lit (.bool true)], args := [] }
  | _ => none }
def spanFixedRow : OpenClaim := { program := "ythillgheddpmhaadoor", sum := "3347e1b0d39e397fe56a0218c6cda16371f00667fb6cca7be9c76ba3942804b5", func := "treadle/treadlelaw05.SpanFixed", spec := "spanFixed", unfollowed := true, recurses := true, named := ["math/bits.deBruijn64tab"], apart := false, laid := [("math/bits.deBruijn64tab", laid_math_bits_deBruijn64tab)] }
def SpanFixedSaid : Prop := spanFixedRow.holds Tryd.pinned (OpenSpec.ofChange spanFixedSpec)

/-- ITS FALSE NEIGHBOUR: 'it returns false'. Refute it at one input. -/
def spanFixedWrong : ChangeSpec := { name := "spanFixed", fn := fun _ => fun
  | [] => { results := [.lit (.bool false)], args := [] }
  | _ => none }
def SpanFixedWrongFalsely : Prop := spanFixedRow.holds Tryd.pinned (OpenSpec.ofChange spanFixedWrong)

/-- 'treadlelaw05.SpanPlays': WHATEVER THE INPUT: true; the input reads as it did. -/
def spanPlaysSpec : ChangeSpec := { name := "spanPlays", fn := fun _ => fun
  | [d1, d2] => { results := [.lit (.bool true)], args := [d1, d2] }
  | _ => none }
def spanPlaysRow : OpenClaim := { program := "ythillgheddpmhaadoor", sum := "3347e1b0d39e397fe56a0218c6cda16371f00667fb6cca7be9c76ba3942804b5", func := "treadle/treadlelaw05.SpanPlays", spec := "spanPlays", unfollowed := true, recurses := true, named := ["math/bits.deBruijn64tab"], apart := false, laid := [("math/bits.deBruijn64tab", laid_math_bits_deBruijn64tab)] }
def SpanPlaysSaid : Prop := spanPlaysRow.holds Tryd.pinned (OpenSpec.ofChange spanPlaysSpec)

/-- ITS FALSE NEIGHBOUR: 'it returns false'. Refute it at one input. -/
def spanPlaysWrong : ChangeSpec := { name := "spanPlays", fn := fun _ => fun
  | [d1, d2] => { results := [.lit (.bool false)], args := [d1, d2] }
  | _ => none }
def SpanPlaysWrongFalsely : Prop := spanPlaysRow.holds Tryd.pinned (OpenSpec.ofChange spanPlaysWrong)

/-- 'treadlelaw05.SpanBack': WHATEVER THE INPUT: true; the input reads as it did. -/
def spanBackSpec : ChangeSpec := { name := "spanBack", fn := fun _ => fun
  | [d1, d2] => { results := [.lit (.bool true)], args := [d1, d2] }
  | _ => none }
def spanBackRow : OpenClaim := { program := "ythillgheddpmhaadoor", sum := "3347e1b0d39e397fe56a0218c6cda16371f00667fb6cca7be9c76ba3942804b5", func := "treadle/treadlelaw05.SpanBack", spec := "spanBack", unfollowed := true, recurses := true, named := ["math/bits.deBruijn64tab"], apart := false, laid := [("math/bits.deBruijn64tab", laid_math_bits_deBruijn64tab)] }
def SpanBackSaid : Prop := spanBackRow.holds Tryd.pinned (OpenSpec.ofChange spanBackSpec)

/-- ITS FALSE NEIGHBOUR: 'it returns false'. Refute it at one input. -/
def spanBackWrong : ChangeSpec := { name := "spanBack", fn := fun _ => fun
  | [d1, d2] => { results := [.lit (.bool false)], args := [d1, d2] }
  | _ => none }
def SpanBackWrongFalsely : Prop := spanBackRow.holds Tryd.pinned (OpenSpec.ofChange spanBackWrong)

/-- 'treadlelaw07.CellApart': WHATEVER THE INPUT: true; the input reads as it did. -/
def cellApartSpec : ChangeSpec := { name := "cellApart", fn := fun _ => fun
  | [d1, d2] => { results := [.lit (.bool true)], args := [d1, d2] }
  | _ => none }
def cellApartRow : OpenClaim := { program := "ythillgheddpmhaadoor", sum := "3347e1b0d39e397fe56a0218c6cda16371f00667fb6cca7be9c76ba3942804b5", func := "treadle/treadlelaw07.CellApart", spec := "cellApart", unfollowed := true, recurses := true, named := ["math/bits.deBruijn64tab"], apart := false, laid := [("math/bits.deBruijn64tab", laid_math_bits_deBruijn64tab)] }
def CellApartSaid : Prop := cellApartRow.holds Tryd.pinned (OpenSpec.ofChange cellApartSpec)

/-- ITS FALSE NEIGHBOUR: 'it returns false'. Refute it at one input. -/
def cellApartWrong : ChangeSpec := { name := "cellApart", fn := fun _ => fun
  | [d1, d2] => { results := [.lit (.bool false)], args := [d1, d2] }
  | _ => none }
def CellApartWrongFalsely : Prop := cellApartRow.holds Tryd.pinned (OpenSpec.ofChange cellApartWrong)

/-- 'treadlelaw07.CellOwn': WHATEVER THE INPUT: true; the input reads as it did. -/
def cellOwnSpec : ChangeSpec := { name := "cellOwn", fn := fun _ => fun
  | [d1, d2] => { results := [.lit (.bool true)], args := [d1, d2] }
  | _ => none }
def cellOwnRow : OpenClaim := { program := "ythillgheddpmhaadoor", sum := "3347e1b0d39e397fe56a0218c6cda16371f00667fb6cca7be9c76ba3942804b5", func := "treadle/treadlelaw07.CellOwn", spec := "cellOwn", unfollowed := true, recurses := true, named := ["math/bits.deBruijn64tab"], apart := false, laid := [("math/bits.deBruijn64tab", laid_math_bits_deBruijn64tab)] }
def CellOwnSaid : Prop := cellOwnRow.holds Tryd.pinned (OpenSpec.ofChange cellOwnSpec)

/-- ITS FALSE NEIGHBOUR: 'it returns false'. Refute it at one input. -/
def cellOwnWrong : ChangeSpec := { name := "cellOwn", fn := fun _ => fun
  | [d1, d2] => { results := [.lit (.bool false)], args := [d1, d2] }
  | _ => none }
def CellOwnWrongFalsely : Prop := cellOwnRow.holds Tryd.pinned (OpenSpec.ofChange cellOwnWrong)

/-- 'treadlelaw07.CellFixed': WHATEVER THE INPUT: true; the input reads as it did. -/
def cellFixedSpec : ChangeSpec := { name := "cellFixed", fn := fun _ => fun
  | [] => { results := [.lit (.bool true)], args := [] }
  | _ => none }
def cellFixedRow : OpenClaim := { program := "ythillgheddpmhaadoor", sum := "3347e1b0d39e397fe56a0218c6cda16371f00667fb6cca7be9c76ba3942804b5", func := "treadle/treadlelaw07.CellFixed", spec := "cellFixed", unfollowed := true, recurses := true, named := ["math/bits.deBruijn64tab"], apart := false, laid := [("math/bits.deBruijn64tab", laid_math_bits_deBruijn64tab)] }
def CellFixedSaid : Prop := cellFixedRow.holds Tryd.pinned (OpenSpec.ofChange cellFixedSpec)

/-- ITS FALSE NEIGHBOUR: 'it returns false'. Refute it at one input. -/
def cellFixedWrong : ChangeSpec := { name := "cellFixed", fn := fun _ => fun
  | [] => { results := [.lit (.bool false)], args := [] }
  | _ => none }
def CellFixedWrongFalsely : Prop := cellFixedRow.holds Tryd.pinned (OpenSpec.ofChange cellFixedWrong)

/-- 'treadlelaw07.CellPlays': WHATEVER THE INPUT: true; the input reads as it did. -/
def cellPlaysSpec : ChangeSpec := { name := "cellPlays", fn := fun _ => fun
  | [d1, d2, d3] => { results := [.lit (.bool true)], args := [d1, d2, d3] }
  | _ => none }
def cellPlaysRow : OpenClaim := { program := "ythillgheddpmhaadoor", sum := "3347e1b0d39e397fe56a0218c6cda16371f00667fb6cca7be9c76ba3942804b5", func := "treadle/treadlelaw07.CellPlays", spec := "cellPlays", unfollowed := true, recurses := true, named := ["math/bits.deBruijn64tab"], apart := false, laid := [("math/bits.deBruijn64tab", laid_math_bits_deBruijn64tab)] }
def CellPlaysSaid : Prop := cellPlaysRow.holds Tryd.pinned (OpenSpec.ofChange cellPlaysSpec)

/-- ITS FALSE NEIGHBOUR: 'it returns false'. Refute it at one input. -/
def cellPlaysWrong : ChangeSpec := { name := "cellPlays", fn := fun _ => fun
  | [d1, d2, d3] => { results := [.lit (.bool false)], args := [d1, d2, d3] }
  | _ => none }
def CellPlaysWrongFalsely : Prop := cellPlaysRow.holds Tryd.pinned (OpenSpec.ofChange cellPlaysWrong)

/-- 'treadlelaw07.CellBack': WHATEVER THE INPUT: true; the input reads as it did. -/
def cellBackSpec : ChangeSpec := { name := "cellBack", fn := fun _ => fun
  | [d] => { results := [.lit (.bool true)], args := [d] }
  | _ => none }
def cellBackRow : OpenClaim := { program := "ythillgheddpmhaadoor", sum := "3347e1b0d39e397fe56a0218c6cda16371f00667fb6cca7be9c76ba3942804b5", func := "treadle/treadlelaw07.CellBack", spec := "cellBack", unfollowed := true, recurses := true, named := ["math/bits.deBruijn64tab"], apart := false, laid := [("math/bits.deBruijn64tab", laid_math_bits_deBruijn64tab)] }
def CellBackSaid : Prop := cellBackRow.holds Tryd.pinned (OpenSpec.ofChange cellBackSpec)

/-- ITS FALSE NEIGHBOUR: 'it returns false'. Refute it at one input. -/
def cellBackWrong : ChangeSpec := { name := "cellBack", fn := fun _ => fun
  | [d] => { results := [.lit (.bool false)], args := [d] }
  | _ => none }
def CellBackWrongFalsely : Prop := cellBackRow.holds Tryd.pinned (OpenSpec.ofChange cellBackWrong)

/- THE SECOND FORM. 'bulk': how many values and letters a reading holds, each counted each time it is reached (what is shared counts as often as it is met; a slice's spare places count too). A statement '..UptoSaid' is the law's where the arguments, and the package variables that the reading takes, are together of bulk at most 1048576: NARROWER than '..Said'. Prove '..Said' where nothing that the law and all that it calls make is longer than what came in: it says more and counts as full. Else prove '..UptoSaid'. A law counts once. -/
mutual
def uptoBulk {H : Type} : DataW H → Nat
  | .lit (.string bytes) => bytes.length + 1
  | .lit _ => 1
  | .nil => 1
  | .ptr d => uptoBulk d + 1
  | .slice elems spare => uptoBulkAll elems + uptoBulkAll spare + 1
  | .agg parts => uptoBulkAll parts + 1
  | .iface _ d => uptoBulk d + 1
  | .map entries => uptoBulkEntries entries + 1
  | .held _ => 1
def uptoBulkAll {H : Type} : List (DataW H) → Nat
  | [] => 0
  | d :: r => uptoBulk d + uptoBulkAll r
def uptoBulkEntries {H : Type} : List (Lit × DataW H) → Nat
  | [] => 0
  | x :: r => uptoBulkEntry x + uptoBulkEntries r
def uptoBulkEntry {H : Type} : Lit × DataW H → Nat
  | (.string bytes, d) => bytes.length + uptoBulk d + 1
  | (_, d) => uptoBulk d + 1
 end
def uptoSmall : (H : Type) → List (DataW H) → Bool := fun _ ds => decide (uptoBulkAll ds ≤ 1048576)
def OpenSpec.upto (s : _root_.Go.ChangeSpec) : _root_.Go.OpenSpec := { _root_.Go.OpenSpec.ofChange s with cond := some uptoSmall }

/-- 'treadlelaw04.PagesFirst', WHERE WHAT IT READS IS OF BULK AT MOST 1048576: true; the input reads as it did. -/
def pagesFirstUptoRow : OpenClaim := { program := "ythillgheddpmhaadoor", sum := "3347e1b0d39e397fe56a0218c6cda16371f00667fb6cca7be9c76ba3942804b5", func := "treadle/treadlelaw04.PagesFirst", spec := "pagesFirst", named := ["math/bits.deBruijn64tab"], apart := false, laid := [("math/bits.deBruijn64tab", laid_math_bits_deBruijn64tab)], narrowed := true }
def PagesFirstUptoSaid : Prop := pagesFirstUptoRow.holds Tryd.pinned (OpenSpec.upto pagesFirstSpec)

/-- 'treadlelaw04.PagesBack', WHERE WHAT IT READS IS OF BULK AT MOST 1048576: true; the input reads as it did. -/
def pagesBackUptoRow : OpenClaim := { program := "ythillgheddpmhaadoor", sum := "3347e1b0d39e397fe56a0218c6cda16371f00667fb6cca7be9c76ba3942804b5", func := "treadle/treadlelaw04.PagesBack", spec := "pagesBack", unfollowed := true, recurses := true, named := ["math/bits.deBruijn64tab"], apart := false, laid := [("math/bits.deBruijn64tab", laid_math_bits_deBruijn64tab)], narrowed := true }
def PagesBackUptoSaid : Prop := pagesBackUptoRow.holds Tryd.pinned (OpenSpec.upto pagesBackSpec)

/-- 'treadlelaw04.PagesPlays', WHERE WHAT IT READS IS OF BULK AT MOST 1048576: true; the input reads as it did. -/
def pagesPlaysUptoRow : OpenClaim := { program := "ythillgheddpmhaadoor", sum := "3347e1b0d39e397fe56a0218c6cda16371f00667fb6cca7be9c76ba3942804b5", func := "treadle/treadlelaw04.PagesPlays", spec := "pagesPlays", unfollowed := true, recurses := true, named := ["math/bits.deBruijn64tab"], apart := false, laid := [("math/bits.deBruijn64tab", laid_math_bits_deBruijn64tab)], narrowed := true }
def PagesPlaysUptoSaid : Prop := pagesPlaysUptoRow.holds Tryd.pinned (OpenSpec.upto pagesPlaysSpec)

/-- 'treadlelaw04.PagesFixed', WHERE WHAT IT READS IS OF BULK AT MOST 1048576: true; the input reads as it did. -/
def pagesFixedUptoRow : OpenClaim := { program := "ythillgheddpmhaadoor", sum := "3347e1b0d39e397fe56a0218c6cda16371f00667fb6cca7be9c76ba3942804b5", func := "treadle/treadlelaw04.PagesFixed", spec := "pagesFixed", unfollowed := true, recurses := true, named := ["math/bits.deBruijn64tab"], apart := false, laid := [("math/bits.deBruijn64tab", laid_math_bits_deBruijn64tab)], narrowed := true }
def PagesFixedUptoSaid : Prop := pagesFixedUptoRow.holds Tryd.pinned (OpenSpec.upto pagesFixedSpec)

/-- 'treadlelaw05.SpanFixed', WHERE WHAT IT READS IS OF BULK AT MOST 1048576: true; the input reads as it did. -/
def spanFixedUptoRow : OpenClaim := { program := "ythillgheddpmhaadoor", sum := "3347e1b0d39e397fe56a0218c6cda16371f00667fb6cca7be9c76ba3942804b5", func := "treadle/treadlelaw05.SpanFixed", spec := "spanFixed", unfollowed := true, recurses := true, named := ["math/bits.deBruijn64tab"], apart := false, laid := [("math/bits.deBruijn64tab", laid_math_bits_deBruijn64tab)], narrowed := true }
def SpanFixedUptoSaid : Prop := spanFixedUptoRow.holds Tryd.pinned (OpenSpec.upto spanFixedSpec)

/-- 'treadlelaw05.SpanPlays', WHERE WHAT IT READS IS OF BULK AT MOST 1048576: true; the input reads as it did. -/
def spanPlaysUptoRow : OpenClaim := { program := "ythillgheddpmhaadoor", sum := "3347e1b0d39e397fe56a0218c6cda16371f00667fb6cca7be9c76ba3942804b5", func := "treadle/treadlelaw05.SpanPlays", spec := "spanPlays", unfollowed := true, recurses := true, named := ["math/bits.deBruijn64tab"], apart := false, laid := [("math/bits.deBruijn64tab", laid_math_bits_deBruijn64tab)], narrowed := true }
def SpanPlaysUptoSaid : Prop := spanPlaysUptoRow.holds Tryd.pinned (OpenSpec.upto spanPlaysSpec)

/-- 'treadlelaw05.SpanBack', WHERE WHAT IT READS IS OF BULK AT MOST 1048576: true; the input reads as it did. -/
def spanBackUptoRow : OpenClaim := { program := "ythillgheddpmhaadoor", sum := "3347e1b0d39e397fe56a0218c6cda16371f00667fb6cca7be9c76ba3942804b5", func := "treadle/treadlelaw05.SpanBack", spec := "spanBack", unfollowed := true, recurses := true, named := ["math/bits.deBruijn64tab"], apart := false, laid := [("math/bits.deBruijn64tab", laid_math_bits_deBruijn64tab)], narrowed := true }
def SpanBackUptoSaid : Prop := spanBackUptoRow.holds Tryd.pinned (OpenSpec.upto spanBackSpec)

/-- 'treadlelaw07.CellApart', WHERE WHAT IT READS IS OF BULK AT MOST 1048576: true; the input reads as it did. -/
def cellApartUptoRow : OpenClaim := { program := "ythillgheddpmhaadoor", sum := "3347e1b0d39e397fe56a0218c6cda16371f00667fb6cca7be9c76ba3942804b5", func := "treadle/treadlelaw07.CellApart", spec := "cellApart", unfollowed := true, recurses := true, named := ["math/bits.deBruijn64tab"], apart := false, laid := [("math/bits.deBruijn64tab", laid_math_bits_deBruijn64tab)], narrowed := true }
def CellApartUptoSaid : Prop := cellApartUptoRow.holds Tryd.pinned (OpenSpec.upto cellApartSpec)

/-- 'treadlelaw07.CellOwn', WHERE WHAT IT READS IS OF BULK AT MOST 1048576: true; the input reads as it did. -/
def cellOwnUptoRow : OpenClaim := { program := "ythillgheddpmhaadoor", sum := "3347e1b0d39e397fe56a0218c6cda16371f00667fb6cca7be9c76ba3942804b5", func := "treadle/treadlelaw07.CellOwn", spec := "cellOwn", unfollowed := true, recurses := true, named := ["math/bits.deBruijn64tab"], apart := false, laid := [("math/bits.deBruijn64tab", laid_math_bits_deBruijn64tab)], narrowed := true }
def CellOwnUptoSaid : Prop := cellOwnUptoRow.holds Tryd.pinned (OpenSpec.upto cellOwnSpec)

/-- 'treadlelaw07.CellFixed', WHERE WHAT IT READS IS OF BULK AT MOST 1048576: true; the input reads as it did. -/
def cellFixedUptoRow : OpenClaim := { program := "ythillgheddpmhaadoor", sum := "3347e1b0d39e397fe56a0218c6cda16371f00667fb6cca7be9c76ba3942804b5", func := "treadle/treadlelaw07.CellFixed", spec := "cellFixed", unfollowed := true, recurses := true, named := ["math/bits.deBruijn64tab"], apart := false, laid := [("math/bits.deBruijn64tab", laid_math_bits_deBruijn64tab)], narrowed := true }
def CellFixedUptoSaid : Prop := cellFixedUptoRow.holds Tryd.pinned (OpenSpec.upto cellFixedSpec)

/-- 'treadlelaw07.CellPlays', WHERE WHAT IT READS IS OF BULK AT MOST 1048576: true; the input reads as it did. -/
def cellPlaysUptoRow : OpenClaim := { program := "ythillgheddpmhaadoor", sum := "3347e1b0d39e397fe56a0218c6cda16371f00667fb6cca7be9c76ba3942804b5", func := "treadle/treadlelaw07.CellPlays", spec := "cellPlays", unfollowed := true, recurses := true, named := ["math/bits.deBruijn64tab"], apart := false, laid := [("math/bits.deBruijn64tab", laid_math_bits_deBruijn64tab)], narrowed := true }
def CellPlaysUptoSaid : Prop := cellPlaysUptoRow.holds Tryd.pinned (OpenSpec.upto cellPlaysSpec)

/-- 'treadlelaw07.CellBack', WHERE WHAT IT READS IS OF BULK AT MOST 1048576: true; the input reads as it did. -/
def cellBackUptoRow : OpenClaim := { program := "ythillgheddpmhaadoor", sum := "3347e1b0d39e397fe56a0218c6cda16371f00667fb6cca7be9c76ba3942804b5", func := "treadle/treadlelaw07.CellBack", spec := "cellBack", unfollowed := true, recurses := true, named := ["math/bits.deBruijn64tab"], apart := false, laid := [("math/bits.deBruijn64tab", laid_math_bits_deBruijn64tab)], narrowed := true }
def CellBackUptoSaid : Prop := cellBackUptoRow.holds Tryd.pinned (OpenSpec.upto cellBackSpec)

end Rows
end Go.Proofs.YthillgheddpmhaaDoor
