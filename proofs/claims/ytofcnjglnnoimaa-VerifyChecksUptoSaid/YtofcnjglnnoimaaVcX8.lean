/-
 What the functions of this seat do,on the machine: lemmas for the laws.
-/
import Derived.Test.YtofcnjglnnoimaaVcX5
import Derived.Test.YtofcnjglnnoimaaVcX7
namespace Go.Proofs.Ytofcnjglnnoimaa.Vf
open Go Go.AM Go.Proofs.Ytofcnjglnnoimaa.AmGW
attribute [local irreducible] AM.wp AM.wpIs AM.wpTr AM.opI AM.gI AM.cI AM.trI AM.callI AM.fnI AM.trG AM.trOp AM.trCall AM.seqC AM.loopI
set_option maxRecDepth 100000
set_option linter.unusedVariables false
set_option linter.unusedSimpArgs false
theorem rHas (h : AHeap) (s : List UInt8) (b : Int) (hs : s.length < 1000) : CallP AP 87 [.str ⟨s.toArray⟩, .int .u8 b] h fun r h' => h' = h ∧ r = .bool (s.any fun x => decide ((x.toNat : Int) = b)) := by
 refine callP (rfl : Tr.get AP 87 = some A87) ?_
 generalize hQ : (fun (r : AVal) (h' : AHeap) => _) = Q
 simp -implicitDefEqProofs (disch := first|decide|assumption|omega|(simp -implicitDefEqProofs only [AM.RN];first|done|omega)|fail) only [↓AM.R0,AM.R1,AM.R2,Nat.reduceAdd,Nat.reduceLeDiff,Nat.reduceEqDiff,Int.reduceToNat,Nat.reduceLT,↓reduceIte,Int.reduceEq,Int.reduceLT,Int.reduceLE]
 refine AM.loopI_of (fun k e h' => ∃ x : Nat,k + x = s.length ∧ e.val 0 = .str ⟨s.toArray⟩ ∧ e.val 1 = .int .u8 b ∧ e.val 5 = .int .i64 x ∧ h' = h ∧ (s.any fun x => decide ((x.toNat : Int) = b)) = ((s.drop x).any fun x => decide ((x.toNat : Int) = b))) s.length ?_ ?_
 ·refine ⟨0,by omega, ?_, ?_, ?_,rfl,by simp⟩ <;> simp -implicitDefEqProofs (disch := first|decide|assumption|omega|(simp -implicitDefEqProofs only [AM.RN];first|done|omega)|fail) only [↓AM.R0,AM.R1,AM.R2,Nat.reduceAdd,Nat.reduceLeDiff,Nat.reduceEqDiff,Int.reduceToNat,Nat.reduceLT,↓reduceIte,Int.reduceEq,Int.reduceLT,Int.reduceLE] <;> rfl
 ·rintro k e h' ⟨x,hk,e0,e1,e5,rfl,ha⟩
  have hsz : ((⟨s.toArray⟩ : ByteArray).size) = s.length := by simp [ByteArray.size]
  simp -implicitDefEqProofs (disch := first|decide|assumption|omega|(simp -implicitDefEqProofs only [AM.RN];first|done|omega)|fail) only [↓AM.R0,AM.R1,AM.R2,Nat.reduceAdd,Nat.reduceLeDiff,Nat.reduceEqDiff,Int.reduceToNat,Nat.reduceLT,↓reduceIte,Int.reduceEq,Int.reduceLT,Int.reduceLE,e0,e1,e5,hsz]
  refine AM.cI_bool (fun hb => ?_) (fun hb => ?_)
  ·simp only [decide_eq_true_eq] at hb
   obtain ⟨a,hx⟩ : ∃ a,s[x]? = some a := ⟨_,List.getElem?_eq_getElem (by omega)⟩
   have hw : IntKind.i64.wrap ((x : Int) + 1) = ((x + 1 : Nat) : Int) := wrap64 (by omega) (by omega)
   rw [any_drop hx] at ha
   have hi : isV h' (.str ⟨s.toArray⟩) (.int .i64 (x : Int)) = some (.int .u8 (a.toNat : Int), h') := by
    have hlt : x < (⟨s.toArray⟩ : ByteArray).size := by rw [hsz]; omega
    have hxa : (⟨s.toArray⟩ : ByteArray)[x] = a := by
     obtain ⟨q,rfl⟩ := List.getElem?_eq_some_iff.1 hx
     rfl
    simp only [AM.isV,Int.natCast_nonneg,if_true,Int.toNat_natCast]
    rw [getElem?_pos (⟨s.toArray⟩ : ByteArray) x hlt,hxa]
    rfl
   simp -implicitDefEqProofs (disch := first|decide|assumption|omega|(simp -implicitDefEqProofs only [AM.RN];first|done|omega)|fail) only [↓AM.R0,AM.R1,AM.R2,Nat.reduceAdd,Nat.reduceLeDiff,Nat.reduceEqDiff,Int.reduceToNat,Nat.reduceLT,↓reduceIte,Int.reduceEq,Int.reduceLT,Int.reduceLE,e0,e1,e5,hi]
   refine AM.cI_bool (fun hc => ?_) (fun hc => ?_)
   ·simp -implicitDefEqProofs (disch := first|decide|assumption|omega|(simp -implicitDefEqProofs only [AM.RN];first|done|omega)|fail) only [↓AM.R0,AM.R1,AM.R2,Nat.reduceAdd,Nat.reduceLeDiff,Nat.reduceEqDiff,Int.reduceToNat,Nat.reduceLT,↓reduceIte,Int.reduceEq,Int.reduceLT,Int.reduceLE]
    rw [hc,Bool.true_or] at ha
    subst hQ
    exact ⟨rfl,by rw [ha]⟩
   ·rw [hc,Bool.false_or] at ha
    simp -implicitDefEqProofs (disch := first|decide|assumption|omega|(simp -implicitDefEqProofs only [AM.RN];first|done|omega)|fail) only [↓AM.R0,AM.R1,AM.R2,Nat.reduceAdd,Nat.reduceLeDiff,Nat.reduceEqDiff,Int.reduceToNat,Nat.reduceLT,↓reduceIte,Int.reduceEq,Int.reduceLT,Int.reduceLE,e0,e1,e5,hw]
    exact ⟨s.length - (x + 1), by omega,x + 1,by omega,rfl,ha⟩
  ·simp only [decide_eq_false_iff_not] at hb
   rw [List.drop_of_length_le (by omega), List.any_nil] at ha
   simp -implicitDefEqProofs (disch := first|decide|assumption|omega|(simp -implicitDefEqProofs only [AM.RN];first|done|omega)|fail) only [↓AM.R0,AM.R1,AM.R2,Nat.reduceAdd,Nat.reduceLeDiff,Nat.reduceEqDiff,Int.reduceToNat,Nat.reduceLT,↓reduceIte,Int.reduceEq,Int.reduceLT,Int.reduceLE]
   subst hQ
   exact ⟨rfl,by rw [ha]⟩
def usesF (op : Int) : List UInt8 :=
 if orB op [1,41] = true then [97,109] else
 if orB op [36] = true then [108] else
 if orB op [35,37,38] = true then [97,108] else
 if orB op [45] = true then [97,98,108] else
 if orB op [47] = true then [] else
 if orB op [24,39,44,46,48,52] = true then [97] else
 if orB op [2,21,22,25,26,28,33,34,40,42,49,50,51] = true then [97,98] else
 [97,98,99]
set_option maxHeartbeats 1000000 in
theorem rUses (op : Int) (h : AHeap) : CallP AP 86 [.int .i64 op] h fun r h' => h' = h ∧ r = .str ⟨(usesF op).toArray⟩ := by
 refine callP (rfl : Tr.get AP 86 = some A86) ?_
 generalize hQ : (fun (r : AVal) (h' : AHeap) => _) = Q
 simp -implicitDefEqProofs (disch := first|decide|assumption|omega|(simp -implicitDefEqProofs only [AM.RN];first|done|omega)|fail) only [↓AM.R0,AM.R1,AM.R2,Nat.reduceAdd,Nat.reduceLeDiff,Nat.reduceEqDiff,Int.reduceToNat,Nat.reduceLT,↓reduceIte,Int.reduceEq,Int.reduceLT,Int.reduceLE]
 refine cI_or (t := 4) (s := 3) (x := op) (by decide) [(6,41)] (by simp -implicitDefEqProofs (disch := first|decide|assumption|omega|(simp -implicitDefEqProofs only [AM.RN];first|done|omega)|fail) only [↓AM.R0,AM.R1,AM.R2,Nat.reduceAdd,Nat.reduceLeDiff,Nat.reduceEqDiff,Int.reduceToNat,Nat.reduceLT,↓reduceIte,Int.reduceEq,Int.reduceLT,Int.reduceLE]) (by simp -implicitDefEqProofs (disch := first|decide|assumption|omega|(simp -implicitDefEqProofs only [AM.RN];first|done|omega)|fail) only [↓AM.R0,AM.R1,AM.R2,Nat.reduceAdd,Nat.reduceLeDiff,Nat.reduceEqDiff,Int.reduceToNat,Nat.reduceLT,↓reduceIte,Int.reduceEq,Int.reduceLT,Int.reduceLE]) (by decide) ?_
 intro e' ht hk
 have e5' : Env.val e' 3 = .int .i64 op := (hk 3 (by decide) (by decide)).trans (by simp -implicitDefEqProofs (disch := first|decide|assumption|omega|(simp -implicitDefEqProofs only [AM.RN];first|done|omega)|fail) only [↓AM.R0,AM.R1,AM.R2,Nat.reduceAdd,Nat.reduceLeDiff,Nat.reduceEqDiff,Int.reduceToNat,Nat.reduceLT,↓reduceIte,Int.reduceEq,Int.reduceLT,Int.reduceLE])
 clear hk
 try clear e5
 have e5 := e5'
 clear e5'
 simp -implicitDefEqProofs (disch := first|decide|assumption|omega|(simp -implicitDefEqProofs only [AM.RN];first|done|omega)|fail) only [↓AM.R0,AM.R1,AM.R2,Nat.reduceAdd,Nat.reduceLeDiff,Nat.reduceEqDiff,Int.reduceToNat,Nat.reduceLT,↓reduceIte,Int.reduceEq,Int.reduceLT,Int.reduceLE,ht]
 refine AM.cI_bool (fun hb => ?_) (fun hb => ?_)
 ·have h1 : orB op [1,41] = true := hb
  simp -implicitDefEqProofs (disch := first|decide|assumption|omega|(simp -implicitDefEqProofs only [AM.RN];first|done|omega)|fail) only [↓AM.R0,AM.R1,AM.R2,Nat.reduceAdd,Nat.reduceLeDiff,Nat.reduceEqDiff,Int.reduceToNat,Nat.reduceLT,↓reduceIte,Int.reduceEq,Int.reduceLT,Int.reduceLE]
  subst hQ
  refine ⟨rfl, ?_⟩
  simp only [usesF,h1,if_true,Bool.false_eq_true,if_false]
 have n1 : orB op [1,41] = false := hb
 clear hb
 clear ht
 simp -implicitDefEqProofs (disch := first|decide|assumption|omega|(simp -implicitDefEqProofs only [AM.RN];first|done|omega)|fail) only [↓AM.R0,AM.R1,AM.R2,Nat.reduceAdd,Nat.reduceLeDiff,Nat.reduceEqDiff,Int.reduceToNat,Nat.reduceLT,↓reduceIte,Int.reduceEq,Int.reduceLT,Int.reduceLE,e5]
 refine AM.cI_bool (fun hb => ?_) (fun hb => ?_)
 ·have h2 : orB op [36] = true := (Bool.or_false _).trans hb
  simp -implicitDefEqProofs (disch := first|decide|assumption|omega|(simp -implicitDefEqProofs only [AM.RN];first|done|omega)|fail) only [↓AM.R0,AM.R1,AM.R2,Nat.reduceAdd,Nat.reduceLeDiff,Nat.reduceEqDiff,Int.reduceToNat,Nat.reduceLT,↓reduceIte,Int.reduceEq,Int.reduceLT,Int.reduceLE]
  subst hQ
  refine ⟨rfl, ?_⟩
  simp only [usesF,n1,h2,if_true,Bool.false_eq_true,if_false]
 have n2 : orB op [36] = false := (Bool.or_false _).trans hb
 clear hb
 simp -implicitDefEqProofs (disch := first|decide|assumption|omega|(simp -implicitDefEqProofs only [AM.RN];first|done|omega)|fail) only [↓AM.R0,AM.R1,AM.R2,Nat.reduceAdd,Nat.reduceLeDiff,Nat.reduceEqDiff,Int.reduceToNat,Nat.reduceLT,↓reduceIte,Int.reduceEq,Int.reduceLT,Int.reduceLE,e5]
 refine cI_or (t := 9) (s := 3) (x := op) (by decide) [(11,37), (12,38)] (by simp -implicitDefEqProofs (disch := first|decide|assumption|omega|(simp -implicitDefEqProofs only [AM.RN];first|done|omega)|fail) only [↓AM.R0,AM.R1,AM.R2,Nat.reduceAdd,Nat.reduceLeDiff,Nat.reduceEqDiff,Int.reduceToNat,Nat.reduceLT,↓reduceIte,Int.reduceEq,Int.reduceLT,Int.reduceLE,e5]) (by simp -implicitDefEqProofs (disch := first|decide|assumption|omega|(simp -implicitDefEqProofs only [AM.RN];first|done|omega)|fail) only [↓AM.R0,AM.R1,AM.R2,Nat.reduceAdd,Nat.reduceLeDiff,Nat.reduceEqDiff,Int.reduceToNat,Nat.reduceLT,↓reduceIte,Int.reduceEq,Int.reduceLT,Int.reduceLE,e5]) (by decide) ?_
 intro e' ht hk
 have e5' : Env.val e' 3 = .int .i64 op := (hk 3 (by decide) (by decide)).trans (by simp -implicitDefEqProofs (disch := first|decide|assumption|omega|(simp -implicitDefEqProofs only [AM.RN];first|done|omega)|fail) only [↓AM.R0,AM.R1,AM.R2,Nat.reduceAdd,Nat.reduceLeDiff,Nat.reduceEqDiff,Int.reduceToNat,Nat.reduceLT,↓reduceIte,Int.reduceEq,Int.reduceLT,Int.reduceLE,e5])
 clear hk
 try clear e5
 have e5 := e5'
 clear e5'
 simp -implicitDefEqProofs (disch := first|decide|assumption|omega|(simp -implicitDefEqProofs only [AM.RN];first|done|omega)|fail) only [↓AM.R0,AM.R1,AM.R2,Nat.reduceAdd,Nat.reduceLeDiff,Nat.reduceEqDiff,Int.reduceToNat,Nat.reduceLT,↓reduceIte,Int.reduceEq,Int.reduceLT,Int.reduceLE,ht]
 refine AM.cI_bool (fun hb => ?_) (fun hb => ?_)
 ·have h3 : orB op [35,37,38] = true := hb
  simp -implicitDefEqProofs (disch := first|decide|assumption|omega|(simp -implicitDefEqProofs only [AM.RN];first|done|omega)|fail) only [↓AM.R0,AM.R1,AM.R2,Nat.reduceAdd,Nat.reduceLeDiff,Nat.reduceEqDiff,Int.reduceToNat,Nat.reduceLT,↓reduceIte,Int.reduceEq,Int.reduceLT,Int.reduceLE]
  subst hQ
  refine ⟨rfl, ?_⟩
  simp only [usesF,n1,n2,h3,if_true,Bool.false_eq_true,if_false]
 have n3 : orB op [35,37,38] = false := hb
 clear hb
 clear ht
 simp -implicitDefEqProofs (disch := first|decide|assumption|omega|(simp -implicitDefEqProofs only [AM.RN];first|done|omega)|fail) only [↓AM.R0,AM.R1,AM.R2,Nat.reduceAdd,Nat.reduceLeDiff,Nat.reduceEqDiff,Int.reduceToNat,Nat.reduceLT,↓reduceIte,Int.reduceEq,Int.reduceLT,Int.reduceLE,e5]
 refine AM.cI_bool (fun hb => ?_) (fun hb => ?_)
 ·have h4 : orB op [45] = true := (Bool.or_false _).trans hb
  simp -implicitDefEqProofs (disch := first|decide|assumption|omega|(simp -implicitDefEqProofs only [AM.RN];first|done|omega)|fail) only [↓AM.R0,AM.R1,AM.R2,Nat.reduceAdd,Nat.reduceLeDiff,Nat.reduceEqDiff,Int.reduceToNat,Nat.reduceLT,↓reduceIte,Int.reduceEq,Int.reduceLT,Int.reduceLE]
  subst hQ
  refine ⟨rfl, ?_⟩
  simp only [usesF,n1,n2,n3,h4,if_true,Bool.false_eq_true,if_false]
 have n4 : orB op [45] = false := (Bool.or_false _).trans hb
 clear hb
 simp -implicitDefEqProofs (disch := first|decide|assumption|omega|(simp -implicitDefEqProofs only [AM.RN];first|done|omega)|fail) only [↓AM.R0,AM.R1,AM.R2,Nat.reduceAdd,Nat.reduceLeDiff,Nat.reduceEqDiff,Int.reduceToNat,Nat.reduceLT,↓reduceIte,Int.reduceEq,Int.reduceLT,Int.reduceLE,e5]
 refine AM.cI_bool (fun hb => ?_) (fun hb => ?_)
 ·have h5 : orB op [47] = true := (Bool.or_false _).trans hb
  simp -implicitDefEqProofs (disch := first|decide|assumption|omega|(simp -implicitDefEqProofs only [AM.RN];first|done|omega)|fail) only [↓AM.R0,AM.R1,AM.R2,Nat.reduceAdd,Nat.reduceLeDiff,Nat.reduceEqDiff,Int.reduceToNat,Nat.reduceLT,↓reduceIte,Int.reduceEq,Int.reduceLT,Int.reduceLE]
  subst hQ
  refine ⟨rfl, ?_⟩
  simp only [usesF,n1,n2,n3,n4,h5,if_true,Bool.false_eq_true,if_false]
 have n5 : orB op [47] = false := (Bool.or_false _).trans hb
 clear hb
 simp -implicitDefEqProofs (disch := first|decide|assumption|omega|(simp -implicitDefEqProofs only [AM.RN];first|done|omega)|fail) only [↓AM.R0,AM.R1,AM.R2,Nat.reduceAdd,Nat.reduceLeDiff,Nat.reduceEqDiff,Int.reduceToNat,Nat.reduceLT,↓reduceIte,Int.reduceEq,Int.reduceLT,Int.reduceLE,e5]
 refine cI_or (t := 17) (s := 3) (x := op) (by decide) [(19,39), (20,44), (21,46), (22,48), (23,52)] (by simp -implicitDefEqProofs (disch := first|decide|assumption|omega|(simp -implicitDefEqProofs only [AM.RN];first|done|omega)|fail) only [↓AM.R0,AM.R1,AM.R2,Nat.reduceAdd,Nat.reduceLeDiff,Nat.reduceEqDiff,Int.reduceToNat,Nat.reduceLT,↓reduceIte,Int.reduceEq,Int.reduceLT,Int.reduceLE,e5]) (by simp -implicitDefEqProofs (disch := first|decide|assumption|omega|(simp -implicitDefEqProofs only [AM.RN];first|done|omega)|fail) only [↓AM.R0,AM.R1,AM.R2,Nat.reduceAdd,Nat.reduceLeDiff,Nat.reduceEqDiff,Int.reduceToNat,Nat.reduceLT,↓reduceIte,Int.reduceEq,Int.reduceLT,Int.reduceLE,e5]) (by decide) ?_
 intro e' ht hk
 have e5' : Env.val e' 3 = .int .i64 op := (hk 3 (by decide) (by decide)).trans (by simp -implicitDefEqProofs (disch := first|decide|assumption|omega|(simp -implicitDefEqProofs only [AM.RN];first|done|omega)|fail) only [↓AM.R0,AM.R1,AM.R2,Nat.reduceAdd,Nat.reduceLeDiff,Nat.reduceEqDiff,Int.reduceToNat,Nat.reduceLT,↓reduceIte,Int.reduceEq,Int.reduceLT,Int.reduceLE,e5])
 clear hk
 try clear e5
 have e5 := e5'
 clear e5'
 simp -implicitDefEqProofs (disch := first|decide|assumption|omega|(simp -implicitDefEqProofs only [AM.RN];first|done|omega)|fail) only [↓AM.R0,AM.R1,AM.R2,Nat.reduceAdd,Nat.reduceLeDiff,Nat.reduceEqDiff,Int.reduceToNat,Nat.reduceLT,↓reduceIte,Int.reduceEq,Int.reduceLT,Int.reduceLE,ht]
 refine AM.cI_bool (fun hb => ?_) (fun hb => ?_)
 ·have h6 : orB op [24,39,44,46,48,52] = true := hb
  simp -implicitDefEqProofs (disch := first|decide|assumption|omega|(simp -implicitDefEqProofs only [AM.RN];first|done|omega)|fail) only [↓AM.R0,AM.R1,AM.R2,Nat.reduceAdd,Nat.reduceLeDiff,Nat.reduceEqDiff,Int.reduceToNat,Nat.reduceLT,↓reduceIte,Int.reduceEq,Int.reduceLT,Int.reduceLE]
  subst hQ
  refine ⟨rfl, ?_⟩
  simp only [usesF,n1,n2,n3,n4,n5,h6,if_true,Bool.false_eq_true,if_false]
 have n6 : orB op [24,39,44,46,48,52] = false := hb
 clear hb
 clear ht
 simp -implicitDefEqProofs (disch := first|decide|assumption|omega|(simp -implicitDefEqProofs only [AM.RN];first|done|omega)|fail) only [↓AM.R0,AM.R1,AM.R2,Nat.reduceAdd,Nat.reduceLeDiff,Nat.reduceEqDiff,Int.reduceToNat,Nat.reduceLT,↓reduceIte,Int.reduceEq,Int.reduceLT,Int.reduceLE,e5]
 refine cI_or (t := 24) (s := 3) (x := op) (by decide) [(26,21), (27,22), (28,25), (29,26), (30,28), (31,33), (32,34), (33,40), (34,42), (35,49), (36,50), (37,51)] (by simp -implicitDefEqProofs (disch := first|decide|assumption|omega|(simp -implicitDefEqProofs only [AM.RN];first|done|omega)|fail) only [↓AM.R0,AM.R1,AM.R2,Nat.reduceAdd,Nat.reduceLeDiff,Nat.reduceEqDiff,Int.reduceToNat,Nat.reduceLT,↓reduceIte,Int.reduceEq,Int.reduceLT,Int.reduceLE,e5]) (by simp -implicitDefEqProofs (disch := first|decide|assumption|omega|(simp -implicitDefEqProofs only [AM.RN];first|done|omega)|fail) only [↓AM.R0,AM.R1,AM.R2,Nat.reduceAdd,Nat.reduceLeDiff,Nat.reduceEqDiff,Int.reduceToNat,Nat.reduceLT,↓reduceIte,Int.reduceEq,Int.reduceLT,Int.reduceLE,e5]) (by decide) ?_
 intro e' ht hk
 have e5' : Env.val e' 3 = .int .i64 op := (hk 3 (by decide) (by decide)).trans (by simp -implicitDefEqProofs (disch := first|decide|assumption|omega|(simp -implicitDefEqProofs only [AM.RN];first|done|omega)|fail) only [↓AM.R0,AM.R1,AM.R2,Nat.reduceAdd,Nat.reduceLeDiff,Nat.reduceEqDiff,Int.reduceToNat,Nat.reduceLT,↓reduceIte,Int.reduceEq,Int.reduceLT,Int.reduceLE,e5])
 clear hk
 try clear e5
 have e5 := e5'
 clear e5'
 simp -implicitDefEqProofs (disch := first|decide|assumption|omega|(simp -implicitDefEqProofs only [AM.RN];first|done|omega)|fail) only [↓AM.R0,AM.R1,AM.R2,Nat.reduceAdd,Nat.reduceLeDiff,Nat.reduceEqDiff,Int.reduceToNat,Nat.reduceLT,↓reduceIte,Int.reduceEq,Int.reduceLT,Int.reduceLE,ht]
 refine AM.cI_bool (fun hb => ?_) (fun hb => ?_)
 ·have h7 : orB op [2,21,22,25,26,28,33,34,40,42,49,50,51] = true := hb
  simp -implicitDefEqProofs (disch := first|decide|assumption|omega|(simp -implicitDefEqProofs only [AM.RN];first|done|omega)|fail) only [↓AM.R0,AM.R1,AM.R2,Nat.reduceAdd,Nat.reduceLeDiff,Nat.reduceEqDiff,Int.reduceToNat,Nat.reduceLT,↓reduceIte,Int.reduceEq,Int.reduceLT,Int.reduceLE]
  subst hQ
  refine ⟨rfl, ?_⟩
  simp only [usesF,n1,n2,n3,n4,n5,n6,h7,if_true,Bool.false_eq_true,if_false]
 have n7 : orB op [2,21,22,25,26,28,33,34,40,42,49,50,51] = false := hb
 clear hb
 clear ht
 simp -implicitDefEqProofs (disch := first|decide|assumption|omega|(simp -implicitDefEqProofs only [AM.RN];first|done|omega)|fail) only [↓AM.R0,AM.R1,AM.R2,Nat.reduceAdd,Nat.reduceLeDiff,Nat.reduceEqDiff,Int.reduceToNat,Nat.reduceLT,↓reduceIte,Int.reduceEq,Int.reduceLT,Int.reduceLE,e5]
 subst hQ
 refine ⟨rfl, ?_⟩
 simp only [usesF,n1,n2,n3,n4,n5,n6,n7,Bool.false_eq_true,if_false]
def hasF (op b : Int) : Bool := (usesF op).any fun x => decide ((x.toNat : Int) = b)
theorem hasF_shape (op : Int) : hasF op 97 = !decide ((shapeF op).1 < 1) ∧ hasF op 98 = !decide ((shapeF op).1 < 2) ∧ hasF op 99 = !decide ((shapeF op).1 < 3) ∧ hasF op 109 = (shapeF op).2.1 ∧ hasF op 108 = (shapeF op).2.2 := by
 unfold hasF usesF shapeF
 split
 ·exact ⟨by decide,by decide,by decide,by decide,by decide⟩
 ·split
  ·exact ⟨by decide,by decide,by decide,by decide,by decide⟩
  ·split
   ·exact ⟨by decide,by decide,by decide,by decide,by decide⟩
   ·split
    ·exact ⟨by decide,by decide,by decide,by decide,by decide⟩
    ·split
     ·exact ⟨by decide,by decide,by decide,by decide,by decide⟩
     ·split
      ·exact ⟨by decide,by decide,by decide,by decide,by decide⟩
      ·split
       ·exact ⟨by decide,by decide,by decide,by decide,by decide⟩
       ·exact ⟨by decide,by decide,by decide,by decide,by decide⟩
end Go.Proofs.Ytofcnjglnnoimaa.Vf
namespace Go.Proofs.Ytofcnjglnnoimaa.Vf
open Go Go.AM Go.Proofs.Ytofcnjglnnoimaa.AmGW
attribute [local irreducible] AM.wp AM.wpIs AM.wpTr AM.opI AM.gI AM.cI AM.trI AM.callI AM.fnI AM.trG AM.trOp AM.trCall AM.seqC AM.loopI
set_option maxRecDepth 100000
set_option linter.unusedVariables false
set_option linter.unusedSimpArgs false
theorem usesF_len (op : Int) : (usesF op).length < 1000 := by
 unfold usesF
 repeat' split
 all_goals decide
theorem has (h : AHeap) (op b : Int) : CallP AP 87 [.str ⟨(usesF op).toArray⟩, .int .u8 b] h fun r h' => h' = h ∧ r = .bool (hasF op b) := rHas h _ b (usesF_len op)
set_option maxHeartbeats 2000000 in
theorem rForm {h : AHeap} {i : PIns} {row : List AVal} (R : InsR h i row) :
  CallP AP 63 [.agg row] h fun r h' => HFrame h h' [] [] ∧ r = .int .i64 (formF i) := by
 obtain ⟨hi,lv,rfl,L⟩ := R
 refine callP (rfl : Tr.get AP 63 = some A63) ?_
 generalize hQ : (fun (r : AVal) (h' : AHeap) => _) = Q
 have cl := SlIn.cellv L
 have ll := L.len
 have f0 := (HFrame.refl (h := h) (F := []) (by simp)).pushTmp (.cells 0 false [.int .i64 i.op, .int .i64 i.a, .int .i64 i.b, .int .i64 i.c, .int .u64 i.imm,lv])
 have gB : (h.push (.cells 0 false [.int .i64 i.op, .int .i64 i.a, .int .i64 i.b, .int .i64 i.c, .int .u64 i.imm,lv])).get h.n = _ := AHeap.get_push_same _ _
 have hn0 : h.n < (h.push (.cells 0 false [.int .i64 i.op, .int .i64 i.a, .int .i64 i.b, .int .i64 i.c, .int .u64 i.imm,lv])).n := by simp
 simp -implicitDefEqProofs (disch := first|decide|assumption|omega|(simp -implicitDefEqProofs only [AM.RN];first|done|omega)|fail) only [↓AM.R0,AM.R1,AM.R2,Nat.reduceAdd,Nat.reduceLeDiff,Nat.reduceEqDiff,Int.reduceToNat,Nat.reduceLT,↓reduceIte,Int.reduceEq,Int.reduceLT,Int.reduceLE,cl]
 generalize h.push (.cells 0 false [.int .i64 i.op, .int .i64 i.a, .int .i64 i.b, .int .i64 i.c, .int .u64 i.imm,lv]) = h1 at *
 refine AM.callI_of (rUses i.op h1) ?_
 rintro r h2 ⟨rfl,rfl⟩
 simp -implicitDefEqProofs (disch := first|decide|assumption|omega|(simp -implicitDefEqProofs only [AM.RN];first|done|omega)|fail) only [↓AM.R0,AM.R1,AM.R2,Nat.reduceAdd,Nat.reduceLeDiff,Nat.reduceEqDiff,Int.reduceToNat,Nat.reduceLT,↓reduceIte,Int.reduceEq,Int.reduceLT,Int.reduceLE]
 refine AM.callI_of (has h2 i.op 97) ?_
 rintro r h3 ⟨rfl,rfl⟩
 simp -implicitDefEqProofs (disch := first|decide|assumption|omega|(simp -implicitDefEqProofs only [AM.RN];first|done|omega)|fail) only [AM.RGB,↓AM.R0,AM.R1,AM.R2,Nat.reduceAdd,Nat.reduceLeDiff,Nat.reduceEqDiff,Int.reduceToNat,Nat.reduceLT,↓reduceIte,Int.reduceEq,Int.reduceLT,Int.reduceLE,gB]
 obtain ⟨s1,s2,s3,s4,s5⟩ := hasF_shape i.op
 have hf : formB i = ((!hasF i.op 97 && !decide (i.a = 0)) || (!hasF i.op 98 && !decide (i.b = 0)) || (!hasF i.op 99 && !decide (i.c = 0)) || (!hasF i.op 109 && !decide ((i.imm : Int) = 0)) || (!hasF i.op 108 && !decide ((i.list.length : Int) = 0))) := by
  rw [formB,s1,s2,s3,s4,s5]; simp only [Bool.not_not]
 generalize hA : (!hasF i.op 97 && !decide (i.a = 0)) = A at *
 cases A
 rotate_left
 ·simp -implicitDefEqProofs (disch := first|decide|assumption|omega|(simp -implicitDefEqProofs only [AM.RN];first|done|omega)|fail) only [↓AM.R0,AM.R1,AM.R2,Nat.reduceAdd,Nat.reduceLeDiff,Nat.reduceEqDiff,Int.reduceToNat,Nat.reduceLT,↓reduceIte,Int.reduceEq,Int.reduceLT,Int.reduceLE]
  subst hQ
  exact ⟨f0,by rw [formF,hf]; simp⟩
 simp -implicitDefEqProofs (disch := first|decide|assumption|omega|(simp -implicitDefEqProofs only [AM.RN];first|done|omega)|fail) only [↓AM.R0,AM.R1,AM.R2,Nat.reduceAdd,Nat.reduceLeDiff,Nat.reduceEqDiff,Int.reduceToNat,Nat.reduceLT,↓reduceIte,Int.reduceEq,Int.reduceLT,Int.reduceLE]
 refine AM.callI_of (has h3 i.op 98) ?_
 rintro r h3 ⟨rfl,rfl⟩
 simp -implicitDefEqProofs (disch := first|decide|assumption|omega|(simp -implicitDefEqProofs only [AM.RN];first|done|omega)|fail) only [AM.RGB,↓AM.R0,AM.R1,AM.R2,Nat.reduceAdd,Nat.reduceLeDiff,Nat.reduceEqDiff,Int.reduceToNat,Nat.reduceLT,↓reduceIte,Int.reduceEq,Int.reduceLT,Int.reduceLE,gB,ll]
 generalize hB : (!hasF i.op 98 && !decide (i.b = 0)) = B at *
 cases B
 rotate_left
 ·simp -implicitDefEqProofs (disch := first|decide|assumption|omega|(simp -implicitDefEqProofs only [AM.RN];first|done|omega)|fail) only [↓AM.R0,AM.R1,AM.R2,Nat.reduceAdd,Nat.reduceLeDiff,Nat.reduceEqDiff,Int.reduceToNat,Nat.reduceLT,↓reduceIte,Int.reduceEq,Int.reduceLT,Int.reduceLE]
  subst hQ
  exact ⟨f0,by rw [formF,hf]; simp⟩
 simp -implicitDefEqProofs (disch := first|decide|assumption|omega|(simp -implicitDefEqProofs only [AM.RN];first|done|omega)|fail) only [↓AM.R0,AM.R1,AM.R2,Nat.reduceAdd,Nat.reduceLeDiff,Nat.reduceEqDiff,Int.reduceToNat,Nat.reduceLT,↓reduceIte,Int.reduceEq,Int.reduceLT,Int.reduceLE]
 refine AM.callI_of (has h3 i.op 99) ?_
 rintro r h3 ⟨rfl,rfl⟩
 simp -implicitDefEqProofs (disch := first|decide|assumption|omega|(simp -implicitDefEqProofs only [AM.RN];first|done|omega)|fail) only [AM.RGB,↓AM.R0,AM.R1,AM.R2,Nat.reduceAdd,Nat.reduceLeDiff,Nat.reduceEqDiff,Int.reduceToNat,Nat.reduceLT,↓reduceIte,Int.reduceEq,Int.reduceLT,Int.reduceLE,gB,ll]
 generalize hC : (!hasF i.op 99 && !decide (i.c = 0)) = C at *
 cases C
 rotate_left
 ·simp -implicitDefEqProofs (disch := first|decide|assumption|omega|(simp -implicitDefEqProofs only [AM.RN];first|done|omega)|fail) only [↓AM.R0,AM.R1,AM.R2,Nat.reduceAdd,Nat.reduceLeDiff,Nat.reduceEqDiff,Int.reduceToNat,Nat.reduceLT,↓reduceIte,Int.reduceEq,Int.reduceLT,Int.reduceLE]
  subst hQ
  exact ⟨f0,by rw [formF,hf]; simp⟩
 simp -implicitDefEqProofs (disch := first|decide|assumption|omega|(simp -implicitDefEqProofs only [AM.RN];first|done|omega)|fail) only [↓AM.R0,AM.R1,AM.R2,Nat.reduceAdd,Nat.reduceLeDiff,Nat.reduceEqDiff,Int.reduceToNat,Nat.reduceLT,↓reduceIte,Int.reduceEq,Int.reduceLT,Int.reduceLE]
 refine AM.callI_of (has h3 i.op 109) ?_
 rintro r h3 ⟨rfl,rfl⟩
 simp -implicitDefEqProofs (disch := first|decide|assumption|omega|(simp -implicitDefEqProofs only [AM.RN];first|done|omega)|fail) only [AM.RGB,↓AM.R0,AM.R1,AM.R2,Nat.reduceAdd,Nat.reduceLeDiff,Nat.reduceEqDiff,Int.reduceToNat,Nat.reduceLT,↓reduceIte,Int.reduceEq,Int.reduceLT,Int.reduceLE,gB,ll]
 generalize hD : (!hasF i.op 109 && !decide ((i.imm : Int) = 0)) = D at *
 cases D
 rotate_left
 ·simp -implicitDefEqProofs (disch := first|decide|assumption|omega|(simp -implicitDefEqProofs only [AM.RN];first|done|omega)|fail) only [↓AM.R0,AM.R1,AM.R2,Nat.reduceAdd,Nat.reduceLeDiff,Nat.reduceEqDiff,Int.reduceToNat,Nat.reduceLT,↓reduceIte,Int.reduceEq,Int.reduceLT,Int.reduceLE]
  subst hQ
  exact ⟨f0,by rw [formF,hf]; simp⟩
 simp -implicitDefEqProofs (disch := first|decide|assumption|omega|(simp -implicitDefEqProofs only [AM.RN];first|done|omega)|fail) only [↓AM.R0,AM.R1,AM.R2,Nat.reduceAdd,Nat.reduceLeDiff,Nat.reduceEqDiff,Int.reduceToNat,Nat.reduceLT,↓reduceIte,Int.reduceEq,Int.reduceLT,Int.reduceLE]
 refine AM.callI_of (has h3 i.op 108) ?_
 rintro r h3 ⟨rfl,rfl⟩
 simp -implicitDefEqProofs (disch := first|decide|assumption|omega|(simp -implicitDefEqProofs only [AM.RN];first|done|omega)|fail) only [AM.RGB,↓AM.R0,AM.R1,AM.R2,Nat.reduceAdd,Nat.reduceLeDiff,Nat.reduceEqDiff,Int.reduceToNat,Nat.reduceLT,↓reduceIte,Int.reduceEq,Int.reduceLT,Int.reduceLE,gB,ll]
 have hle : decide (0 < (i.list.length : Int)) = !decide ((i.list.length : Int) = 0) := by
  by_cases hq : i.list.length = 0
  ·simp [hq]
  ·rw [decide_eq_true (by omega), decide_eq_false (by omega)]; rfl
 rw [hle]
 generalize hE : (!hasF i.op 108 && !decide ((i.list.length : Int) = 0)) = E at *
 cases E
 ·simp -implicitDefEqProofs (disch := first|decide|assumption|omega|(simp -implicitDefEqProofs only [AM.RN];first|done|omega)|fail) only [↓AM.R0,AM.R1,AM.R2,Nat.reduceAdd,Nat.reduceLeDiff,Nat.reduceEqDiff,Int.reduceToNat,Nat.reduceLT,↓reduceIte,Int.reduceEq,Int.reduceLT,Int.reduceLE,gB,ll]
  refine AM.cI_bool (fun hc => ?_) (fun hc => ?_)
  ·simp only [decide_eq_true_eq] at hc
   simp -implicitDefEqProofs (disch := first|decide|assumption|omega|(simp -implicitDefEqProofs only [AM.RN];first|done|omega)|fail) only [↓AM.R0,AM.R1,AM.R2,Nat.reduceAdd,Nat.reduceLeDiff,Nat.reduceEqDiff,Int.reduceToNat,Nat.reduceLT,↓reduceIte,Int.reduceEq,Int.reduceLT,Int.reduceLE]
   subst hQ
   exact ⟨f0,by rw [formF,hf,if_neg (by simp), if_pos (by omega)]⟩
  ·simp only [decide_eq_false_iff_not] at hc
   simp -implicitDefEqProofs (disch := first|decide|assumption|omega|(simp -implicitDefEqProofs only [AM.RN];first|done|omega)|fail) only [↓AM.R0,AM.R1,AM.R2,Nat.reduceAdd,Nat.reduceLeDiff,Nat.reduceEqDiff,Int.reduceToNat,Nat.reduceLT,↓reduceIte,Int.reduceEq,Int.reduceLT,Int.reduceLE]
   subst hQ
   exact ⟨f0,by rw [formF,hf,if_neg (by simp), if_neg (by omega)]⟩
 ·simp -implicitDefEqProofs (disch := first|decide|assumption|omega|(simp -implicitDefEqProofs only [AM.RN];first|done|omega)|fail) only [↓AM.R0,AM.R1,AM.R2,Nat.reduceAdd,Nat.reduceLeDiff,Nat.reduceEqDiff,Int.reduceToNat,Nat.reduceLT,↓reduceIte,Int.reduceEq,Int.reduceLT,Int.reduceLE]
  subst hQ
  exact ⟨f0,by rw [formF,hf]; simp⟩
end Go.Proofs.Ytofcnjglnnoimaa.Vf
namespace Go.Proofs.Ytofcnjglnnoimaa.Vf
open Go Go.AM Go.Proofs.Ytofcnjglnnoimaa.AmGW
attribute [local irreducible] AM.wp AM.wpIs AM.wpTr AM.opI AM.gI AM.cI AM.trI AM.callI AM.fnI AM.trG AM.trOp AM.trCall AM.seqC AM.loopI
set_option maxRecDepth 100000
set_option linter.unusedVariables false
set_option linter.unusedSimpArgs false
set_option maxHeartbeats 2000000 in
theorem rJump {h : AHeap} {f : PFunc} {i : PIns} {frow row : List AVal} (F : FuncR h f frow) (R : InsR h i row) :
  CallP AP 90 [.agg frow, .agg row] h fun r h' => HFrame h h' [] [] ∧ r = .int .i64 (jumpF f i) := by
 have F0 := F
 obtain ⟨sv,rv,cv,rfl,s4,s5,s6⟩ := F
 obtain ⟨hi,lv,rfl,L⟩ := R
 refine callP (rfl : Tr.get AP 90 = some A90) ?_
 generalize hQ : (fun (r : AVal) (h' : AHeap) => _) = Q
 have cl := SlIn.cellv L
 have c1 := SlIn.cellv s4
 have c2 := SlIn.cellv s5
 have c3 := SlR.cellv s6
 have b1 := SlIn.beqv s4
 have b2 := SlIn.beqv s5
 have b3 := SlR.beqv s6
 have lc := s6.len
 have f0 := ((HFrame.refl (h := h) (F := []) (by simp)).pushTmp (.cells 0 false [.int .i64 f.params,sv,rv,cv])).pushTmp (.cells 0 false [.int .i64 i.op, .int .i64 i.a, .int .i64 i.b, .int .i64 i.c, .int .u64 i.imm,lv])
 obtain ⟨hA,hhA⟩ : ∃ hA,hA = ((h.push (.cells 0 false [.int .i64 f.params,sv,rv,cv])).push (.cells 0 false [.int .i64 i.op, .int .i64 i.a, .int .i64 i.b, .int .i64 i.c, .int .u64 i.imm,lv])) := ⟨_,rfl⟩
 have gF : hA.get h.n = .cells 0 false [.int .i64 f.params,sv,rv,cv] := by rw [hhA]; simp -implicitDefEqProofs (disch := first|decide|assumption|omega|(simp -implicitDefEqProofs only [AM.RN];first|done|omega)|fail) only [↓AM.R0,AM.R1,AM.R2,Nat.reduceAdd,Nat.reduceLeDiff,Nat.reduceEqDiff,Int.reduceToNat,Nat.reduceLT,↓reduceIte,Int.reduceEq,Int.reduceLT,Int.reduceLE]
 have gI : hA.get (h.n + 1) = .cells 0 false [.int .i64 i.op, .int .i64 i.a, .int .i64 i.b, .int .i64 i.c, .int .u64 i.imm,lv] := by rw [hhA]; simp -implicitDefEqProofs (disch := first|decide|assumption|omega|(simp -implicitDefEqProofs only [AM.RN];first|done|omega)|fail) only [↓AM.R0,AM.R1,AM.R2,Nat.reduceAdd,Nat.reduceLeDiff,Nat.reduceEqDiff,Int.reduceToNat,Nat.reduceLT,↓reduceIte,Int.reduceEq,Int.reduceLT,Int.reduceLE]
 have nA : hA.n = h.n + 2 := by rw [hhA]; rfl
 simp -implicitDefEqProofs (disch := first|decide|assumption|omega|(simp -implicitDefEqProofs only [AM.RN];first|done|omega)|fail) only [↓AM.R0,AM.R1,AM.R2,Nat.reduceAdd,Nat.reduceLeDiff,Nat.reduceEqDiff,Int.reduceToNat,Nat.reduceLT,↓reduceIte,Int.reduceEq,Int.reduceLT,Int.reduceLE,cl,c1,c2,c3]
 rw [← hhA] at f0 ⊢
 clear hhA
 refine AM.cI_bool (fun ho => ?_) (fun ho => ?_)
 ·simp only [decide_eq_true_eq] at ho
  simp -implicitDefEqProofs (disch := first|decide|assumption|omega|(simp -implicitDefEqProofs only [AM.RN];first|done|omega)|fail) only [↓AM.R0,AM.R1,AM.R2,Nat.reduceAdd,Nat.reduceLeDiff,Nat.reduceEqDiff,Int.reduceToNat,Nat.reduceLT,↓reduceIte,Int.reduceEq,Int.reduceLT,Int.reduceLE,gF,gI]
  have fW := f0.pushTmp (.cells 0 false [.nils, .nils])
  have gW : (hA.push (.cells 0 false [.nils, .nils])).get hA.n = .cells 0 false [.nils, .nils] := AHeap.get_push_same _ _
  have gFW : (hA.push (.cells 0 false [.nils, .nils])).get h.n = _ := (AHeap.get_push_ne _ _ (by omega)).trans gF
  have gIW : (hA.push (.cells 0 false [.nils, .nils])).get (h.n + 1) = _ := (AHeap.get_push_ne _ _ (by omega)).trans gI
  have nW : (hA.push (.cells 0 false [.nils, .nils])).n = h.n + 3 := by simp; omega
  generalize hA.push (.cells 0 false [.nils, .nils]) = hW at *
  refine AM.trCall_of (rAnd nilW (by simp) (by simp) i.a 0) ?_
  rintro r h2 ⟨f2,wr,rfl,W2⟩
  rw [List.nil_append,List.nil_append] at W2
  have gF2 := (f2.get h.n (by omega) (by simp)).trans gFW
  have gI2 := (f2.get (h.n + 1) (by omega) (by simp)).trans gIW
  have gW2 := (f2.get hA.n (by omega) (by simp)).trans gW
  have n2 : h.n + 3 ≤ h2.n := by have := f2.n; omega
  have f02 := fW.trans f2
  obtain ⟨wv,ww,rfl,W2a,W2b⟩ := W2
  have cwa := SlIn.cellv W2a
  have cwb := SlIn.cellv W2b
  simp -implicitDefEqProofs (disch := first|decide|assumption|omega|(simp -implicitDefEqProofs only [AM.RN];first|done|omega)|fail) only [↓AM.R0,AM.R1,AM.R2,Nat.reduceAdd,Nat.reduceLeDiff,Nat.reduceEqDiff,Int.reduceToNat,Nat.reduceLT,↓reduceIte,Int.reduceEq,Int.reduceLT,Int.reduceLE,gF2,gI2,gW2]
  refine AM.trCall_of (rMet (F0.keep f02) (l := [(i.a,0)]) ⟨wv,ww,rfl,W2a,W2b⟩ (by simp)) ?_
  rintro r h3 ⟨f3,rfl⟩
  have gF3 := (f3.get h.n (by omega) (by simp)).trans gF2
  have gI3 := (f3.get (h.n + 1) (by omega) (by simp)).trans gI2
  have gW3 := (f3.get hA.n (by omega) (by simp)).trans gW2
  have n3 : h.n + 3 ≤ h3.n := by have := f3.n; omega
  have f03 := f02.trans f3
  have bi : ∀ (k : IntKind) (n : Int), (AVal.int k n).beq (.int k n) = true := fun k n => by simp [AVal.beq]
  simp -implicitDefEqProofs (disch := first|decide|assumption|omega|(simp -implicitDefEqProofs only [AM.RN];first|done|omega)|fail) only [↓AM.R0,AM.R1,AM.R2,Nat.reduceAdd,Nat.reduceLeDiff,Nat.reduceEqDiff,Int.reduceToNat,Nat.reduceLT,↓reduceIte,Int.reduceEq,Int.reduceLT,Int.reduceLE,gF2,gI2,gW2,gF3,gI3,gW3,b1,b2,b3,bi,AM.sameO_some,c1,c2,c3]
  refine AM.cI_bool (fun hc => ?_) (fun hc => ?_)
  ·simp -implicitDefEqProofs (disch := first|decide|assumption|omega|(simp -implicitDefEqProofs only [AM.RN];first|done|omega)|fail) only [↓AM.R0,AM.R1,AM.R2,Nat.reduceAdd,Nat.reduceLeDiff,Nat.reduceEqDiff,Int.reduceToNat,Nat.reduceLT,↓reduceIte,Int.reduceEq,Int.reduceLT,Int.reduceLE]
   subst hQ
   have hc' : areF f.slots [(i.a,0)] ≠ 0 := by simpa using hc
   exact ⟨f03,by rw [jumpF,if_pos ho,if_pos hc']⟩
  ·have hc' : ¬ areF f.slots [(i.a,0)] ≠ 0 := by simpa using hc
   simp -implicitDefEqProofs (disch := first|decide|assumption|omega|(simp -implicitDefEqProofs only [AM.RN];first|done|omega)|fail) only [AM.RGB,↓AM.R0,AM.R1,AM.R2,Nat.reduceAdd,Nat.reduceLeDiff,Nat.reduceEqDiff,Int.reduceToNat,Nat.reduceLT,↓reduceIte,Int.reduceEq,Int.reduceLT,Int.reduceLE,gF3,gI3,lc]
   refine AM.cI_bool (fun hd => ?_) (fun hd => ?_)
   ·simp -implicitDefEqProofs (disch := first|decide|assumption|omega|(simp -implicitDefEqProofs only [AM.RN];first|done|omega)|fail) only [↓AM.R0,AM.R1,AM.R2,Nat.reduceAdd,Nat.reduceLeDiff,Nat.reduceEqDiff,Int.reduceToNat,Nat.reduceLT,↓reduceIte,Int.reduceEq,Int.reduceLT,Int.reduceLE]
    subst hQ
    simp only [Bool.or_eq_true,decide_eq_true_eq] at hd
    exact ⟨f03,by rw [jumpF,if_pos ho,if_neg hc', toF,if_pos (by omega)]⟩
   ·simp -implicitDefEqProofs (disch := first|decide|assumption|omega|(simp -implicitDefEqProofs only [AM.RN];first|done|omega)|fail) only [↓AM.R0,AM.R1,AM.R2,Nat.reduceAdd,Nat.reduceLeDiff,Nat.reduceEqDiff,Int.reduceToNat,Nat.reduceLT,↓reduceIte,Int.reduceEq,Int.reduceLT,Int.reduceLE]
    subst hQ
    simp only [Bool.or_eq_false_iff,decide_eq_false_iff_not] at hd
    exact ⟨f03,by rw [jumpF,if_pos ho,if_neg hc', toF,if_neg (by omega)]⟩
 ·simp only [decide_eq_false_iff_not] at ho
  simp -implicitDefEqProofs (disch := first|decide|assumption|omega|(simp -implicitDefEqProofs only [AM.RN];first|done|omega)|fail) only [AM.RGB,↓AM.R0,AM.R1,AM.R2,Nat.reduceAdd,Nat.reduceLeDiff,Nat.reduceEqDiff,Int.reduceToNat,Nat.reduceLT,↓reduceIte,Int.reduceEq,Int.reduceLT,Int.reduceLE,gF,gI,lc]
  refine AM.cI_bool (fun hd => ?_) (fun hd => ?_)
  ·simp -implicitDefEqProofs (disch := first|decide|assumption|omega|(simp -implicitDefEqProofs only [AM.RN];first|done|omega)|fail) only [↓AM.R0,AM.R1,AM.R2,Nat.reduceAdd,Nat.reduceLeDiff,Nat.reduceEqDiff,Int.reduceToNat,Nat.reduceLT,↓reduceIte,Int.reduceEq,Int.reduceLT,Int.reduceLE]
   subst hQ
   simp only [Bool.or_eq_true,decide_eq_true_eq] at hd
   exact ⟨f0,by rw [jumpF,if_neg ho,toF,if_pos (by omega)]⟩
  ·simp -implicitDefEqProofs (disch := first|decide|assumption|omega|(simp -implicitDefEqProofs only [AM.RN];first|done|omega)|fail) only [↓AM.R0,AM.R1,AM.R2,Nat.reduceAdd,Nat.reduceLeDiff,Nat.reduceEqDiff,Int.reduceToNat,Nat.reduceLT,↓reduceIte,Int.reduceEq,Int.reduceLT,Int.reduceLE]
   subst hQ
   simp only [Bool.or_eq_false_iff,decide_eq_false_iff_not] at hd
   exact ⟨f0,by rw [jumpF,if_neg ho,toF,if_neg (by omega)]⟩
end Go.Proofs.Ytofcnjglnnoimaa.Vf
namespace Go.Proofs.Ytofcnjglnnoimaa.Vf
open Go Go.AM Go.Proofs.Ytofcnjglnnoimaa.AmGW
attribute [local irreducible] AM.wp AM.wpIs AM.wpTr AM.opI AM.gI AM.cI AM.trI AM.callI AM.fnI AM.trG AM.trOp AM.trCall AM.seqC AM.loopI
set_option maxRecDepth 100000
set_option linter.unusedVariables false
set_option linter.unusedSimpArgs false
def fieldF (p : PProg) (sl : List Int) (ob c slot : Int) : Int :=
 if (objF p sl ob false).1 ≠ 0 then (objF p sl ob false).1
 else if c < 0 ∨ (objF p sl ob false).2.2.length ≤ c then 14 else areF sl [(slot, (((objF p sl ob false).2.2)[c.toNat]?).getD 0)]
set_option maxHeartbeats 2000000 in
theorem rField {h : AHeap} {p : PProg} {f : PFunc} {prow frow : List AVal} (P : ProgR h p prow) (F : FuncR h f frow) (H : Hs p f.slots) (ob c slot : Int) :
  CallP AP 117 [.agg prow, .agg frow, .int .i64 ob, .int .i64 c, .int .i64 slot] h fun r h' => HFrame h h' [] [] ∧ r = .int .i64 (fieldF p f.slots ob c slot) := by
 have F0 := F
 have P0 := P
 obtain ⟨sv,rv,cv,rfl,s4,s5,s6⟩ := F
 obtain ⟨tv,gv,fv,rfl,RT,RG,RF⟩ := P
 refine callP (rfl : Tr.get AP 117 = some A117) ?_
 generalize hQ : (fun (r : AVal) (h' : AHeap) => _) = Q
 have c1 := SlIn.cellv s4
 have c2 := SlIn.cellv s5
 have c3 := SlR.cellv s6
 have c4 := SlR.cellv RT
 have c5 := SlIn.cellv RG
 have c6 := SlR.cellv RF
 have b1 := SlIn.beqv s4
 have b2 := SlIn.beqv s5
 have b3 := SlR.beqv s6
 have f0 := ((HFrame.refl (h := h) (F := []) (by simp)).pushTmp (.cells 0 false [tv,gv,fv])).pushTmp (.cells 0 false [.int .i64 f.params,sv,rv,cv])
 obtain ⟨hA,hhA⟩ : ∃ hA,hA = ((h.push (.cells 0 false [tv,gv,fv])).push (.cells 0 false [.int .i64 f.params,sv,rv,cv])) := ⟨_,rfl⟩
 have gP : hA.get h.n = .cells 0 false [tv,gv,fv] := by rw [hhA]; simp -implicitDefEqProofs (disch := first|decide|assumption|omega|(simp -implicitDefEqProofs only [AM.RN];first|done|omega)|fail) only [↓AM.R0,AM.R1,AM.R2,Nat.reduceAdd,Nat.reduceLeDiff,Nat.reduceEqDiff,Int.reduceToNat,Nat.reduceLT,↓reduceIte,Int.reduceEq,Int.reduceLT,Int.reduceLE]
 have gF : hA.get (h.n + 1) = .cells 0 false [.int .i64 f.params,sv,rv,cv] := by rw [hhA]; simp -implicitDefEqProofs (disch := first|decide|assumption|omega|(simp -implicitDefEqProofs only [AM.RN];first|done|omega)|fail) only [↓AM.R0,AM.R1,AM.R2,Nat.reduceAdd,Nat.reduceLeDiff,Nat.reduceEqDiff,Int.reduceToNat,Nat.reduceLT,↓reduceIte,Int.reduceEq,Int.reduceLT,Int.reduceLE]
 have nA : hA.n = h.n + 2 := by rw [hhA]; rfl
 simp -implicitDefEqProofs (disch := first|decide|assumption|omega|(simp -implicitDefEqProofs only [AM.RN];first|done|omega)|fail) only [↓AM.R0,AM.R1,AM.R2,Nat.reduceAdd,Nat.reduceLeDiff,Nat.reduceEqDiff,Int.reduceToNat,Nat.reduceLT,↓reduceIte,Int.reduceEq,Int.reduceLT,Int.reduceLE,c1,c2,c3,c4,c5,c6]
 rw [← hhA] at f0 ⊢
 clear hhA
 refine AM.callI_of (rTypeOf (P0.keep f0) (F0.keep f0) H ob false) ?_
 rintro r h2 ⟨f2,row,rfl,fl,rfl,xl⟩
 have cf := SlIn.cellv xl
 have gF2 := (f2.get (h.n + 1) (by omega) (by simp)).trans gF
 have n2 : h.n + 2 ≤ h2.n := by have := f2.n; omega
 have f02 := f0.trans f2
 simp -implicitDefEqProofs (disch := first|decide|assumption|omega|(simp -implicitDefEqProofs only [AM.RN];first|done|omega)|fail) only [↓AM.R0,AM.R1,AM.R2,Nat.reduceAdd,Nat.reduceLeDiff,Nat.reduceEqDiff,Int.reduceToNat,Nat.reduceLT,↓reduceIte,Int.reduceEq,Int.reduceLT,Int.reduceLE,cf]
 have fT := (f02.pushTmp (.cells 0 false [.bool false, .nils])).setTmp (i := h2.n) f02.n (.cells 0 false [.bool (objF p f.slots ob false).2.1,fl])
 have fX := ((HFrame.refl (h := h2) (F := []) (by simp)).pushTmp (.cells 0 false [.bool false, .nils])).setTmp (i := h2.n) (Nat.le_refl _) (.cells 0 false [.bool (objF p f.slots ob false).2.1,fl])
 obtain ⟨hB,hhB⟩ : ∃ hB,hB = (h2.push (.cells 0 false [.bool false, .nils])).set h2.n (.cells 0 false [.bool (objF p f.slots ob false).2.1,fl]) := ⟨_,rfl⟩
 have gT : hB.get h2.n = .cells 0 false [.bool (objF p f.slots ob false).2.1,fl] := by rw [hhB]; exact AHeap.get_set_same _ _ _
 have gFB : hB.get (h.n + 1) = .cells 0 false [.int .i64 f.params,sv,rv,cv] := by rw [hhB]; exact (AHeap.get_set_ne _ _ (by omega)).trans ((AHeap.get_push_ne _ _ (by omega)).trans gF2)
 have nB : hB.n = h2.n + 1 := by rw [hhB]; rfl
 rw [← hhB] at fT fX ⊢
 clear hhB
 have xlB := xl.keep fX
 have lx := xlB.len
 have bx := SlIn.beqv xlB
 refine AM.cI_bool (fun hc => ?_) (fun hc => ?_)
 ·have hc' : (objF p f.slots ob false).1 ≠ 0 := by simpa using hc
  simp -implicitDefEqProofs (disch := first|decide|assumption|omega|(simp -implicitDefEqProofs only [AM.RN];first|done|omega)|fail) only [↓AM.R0,AM.R1,AM.R2,Nat.reduceAdd,Nat.reduceLeDiff,Nat.reduceEqDiff,Int.reduceToNat,Nat.reduceLT,↓reduceIte,Int.reduceEq,Int.reduceLT,Int.reduceLE]
  subst hQ
  exact ⟨fT,by rw [fieldF,if_pos hc']⟩
 have hc' : ¬ (objF p f.slots ob false).1 ≠ 0 := by simpa using hc
 simp -implicitDefEqProofs (disch := first|decide|assumption|omega|(simp -implicitDefEqProofs only [AM.RN];first|done|omega)|fail) only [AM.RGB,↓AM.R0,AM.R1,AM.R2,Nat.reduceAdd,Nat.reduceLeDiff,Nat.reduceEqDiff,Int.reduceToNat,Nat.reduceLT,↓reduceIte,Int.reduceEq,Int.reduceLT,Int.reduceLE,gT,lx]
 refine AM.cI_bool (fun hd => ?_) (fun hd => ?_)
 ·simp -implicitDefEqProofs (disch := first|decide|assumption|omega|(simp -implicitDefEqProofs only [AM.RN];first|done|omega)|fail) only [↓AM.R0,AM.R1,AM.R2,Nat.reduceAdd,Nat.reduceLeDiff,Nat.reduceEqDiff,Int.reduceToNat,Nat.reduceLT,↓reduceIte,Int.reduceEq,Int.reduceLT,Int.reduceLE]
  subst hQ
  simp only [Bool.or_eq_true,decide_eq_true_eq] at hd
  exact ⟨fT,by rw [fieldF,if_neg hc', if_pos hd]⟩
 simp only [Bool.or_eq_false_iff,decide_eq_false_iff_not] at hd
 obtain ⟨k,hk⟩ : ∃ k, (objF p f.slots ob false).2.2[c.toNat]? = some k := ⟨_,List.getElem?_eq_getElem (by omega)⟩
 obtain ⟨j,g,off,vs,ro,hv,x2,x3,x5⟩ := SlRd.atK (xlB.rd hk) hk
 subst hv
 have xi : ∀ (H : AHeap), H.get j = .cells g ro vs → ixV H 1 (.sl j g off (objF p f.slots ob false).2.2.length 1) (.int .i64 c) = some (.ptr j g (off + c.toNat), H) := fun H e => by
  have := AM.ix_sl (k := .i64) (n := c) (len := (objF p f.slots ob false).2.2.length) (esz := 1) (off := off) H e (by omega) (by omega)
  rw [Nat.mul_one] at this; exact this
 have bi : ∀ (k : IntKind) (n : Int), (AVal.int k n).beq (.int k n) = true := fun k n => by simp [AVal.beq]
 have bp : ∀ a b c, (AVal.ptr a b c).beq (.ptr a b c) = true := fun a b c => by simp [AVal.beq]
 have bs : ∀ a b c d e, (AVal.sl a b c d e).beq (AVal.sl a b c d e) = true := AM.beq_sl
 have fW := fT.pushTmp (.cells 0 false [.nils, .nils])
 have hjn : j ≠ hB.n := by omega
 have x2W : (hB.push (.cells 0 false [.nils, .nils])).get j = .cells g ro vs := (AHeap.get_push_ne _ _ hjn).trans x2
 have xW := xi _ x2W
 have gTW : (hB.push (.cells 0 false [.nils, .nils])).get h2.n = _ := (AHeap.get_push_ne _ _ (by omega)).trans gT
 have gFW : (hB.push (.cells 0 false [.nils, .nils])).get (h.n + 1) = _ := (AHeap.get_push_ne _ _ (by omega)).trans gFB
 have gW : (hB.push (.cells 0 false [.nils, .nils])).get hB.n = .cells 0 false [.nils, .nils] := AHeap.get_push_same _ _
 have nW : (hB.push (.cells 0 false [.nils, .nils])).n = hB.n + 1 := by simp
 simp -implicitDefEqProofs (disch := first|decide|assumption|omega|(simp -implicitDefEqProofs only [AM.RN];first|done|omega)|fail) only [↓AM.R0,AM.R1,AM.R2,Nat.reduceAdd,Nat.reduceLeDiff,Nat.reduceEqDiff,Int.reduceToNat,Nat.reduceLT,↓reduceIte,Int.reduceEq,Int.reduceLT,Int.reduceLE,gFW,gTW,gW,gT,gFB,xW,x2,x2W,x5,c1,c2,c3]
 generalize hB.push (.cells 0 false [.nils, .nils]) = hW at *
 refine AM.trCall_of (rAnd nilW (by simp) (by simp) slot k) ?_
 rintro r h3 ⟨f3,wr,rfl,W3⟩
 rw [List.nil_append,List.nil_append] at W3
 obtain ⟨wv,ww,rfl,Wa,Wb⟩ := W3
 have g3F := (f3.get (h.n + 1) (by omega) (by simp)).trans gFW
 have g3T := (f3.get h2.n (by omega) (by simp)).trans gTW
 have g3W := (f3.get hB.n (by omega) (by simp)).trans gW
 have x23 := (f3.get j (by omega) (by simp)).trans x2W
 have xi3 := xi _ x23
 have n3 : hW.n ≤ h3.n := f3.n
 have f03 := fW.trans f3
 have cwa := SlIn.cellv Wa
 have cwb := SlIn.cellv Wb
 simp -implicitDefEqProofs (disch := first|decide|assumption|omega|(simp -implicitDefEqProofs only [AM.RN];first|done|omega)|fail) only [↓AM.R0,AM.R1,AM.R2,Nat.reduceAdd,Nat.reduceLeDiff,Nat.reduceEqDiff,Int.reduceToNat,Nat.reduceLT,↓reduceIte,Int.reduceEq,Int.reduceLT,Int.reduceLE,gFW,gTW,gW,g3F,g3T,g3W,xW,xi3,x2W,x23,x5,c1,c2,c3,b1,b2,b3,bi,bp,bs,AM.sameO_some]
 refine AM.trCall_of (rMet (F0.keep f03) (l := [(slot,k)]) ⟨wv,ww,rfl,Wa,Wb⟩ (by simp)) ?_
 rintro r h4 ⟨f4,rfl⟩
 have g4F := (f4.get (h.n + 1) (by omega) (by simp)).trans g3F
 have g4T := (f4.get h2.n (by omega) (by simp)).trans g3T
 have g4W := (f4.get hB.n (by omega) (by simp)).trans g3W
 have x24 := (f4.get j (by omega) (by simp)).trans x23
 have xi4 := xi _ x24
 have n4 : h3.n ≤ h4.n := f4.n
 simp -implicitDefEqProofs (disch := first|decide|assumption|omega|(simp -implicitDefEqProofs only [AM.RN];first|done|omega)|fail) only [↓AM.R0,AM.R1,AM.R2,Nat.reduceAdd,Nat.reduceLeDiff,Nat.reduceEqDiff,Int.reduceToNat,Nat.reduceLT,↓reduceIte,Int.reduceEq,Int.reduceLT,Int.reduceLE,gFW,gTW,gW,g3F,g3T,g3W,g4F,g4T,g4W,xW,xi3,xi4,x2W,x23,x24,x5,c1,c2,c3,b1,b2,b3,bi,bp,bs,AM.sameO_some]
 subst hQ
 exact ⟨f03.trans f4,by rw [fieldF,if_neg hc', if_neg (by omega), hk]; rfl⟩
end Go.Proofs.Ytofcnjglnnoimaa.Vf
namespace Go.Proofs.Ytofcnjglnnoimaa.Vf
open Go Go.AM Go.Proofs.Ytofcnjglnnoimaa.AmGW
attribute [local irreducible] AM.wp AM.wpIs AM.wpTr AM.opI AM.gI AM.cI AM.trI AM.callI AM.fnI AM.trG AM.trOp AM.trCall AM.seqC AM.loopI
set_option maxRecDepth 100000
set_option linter.unusedVariables false
set_option linter.unusedSimpArgs false
set_option maxHeartbeats 4000000 in
theorem rCalls {h : AHeap} {p : PProg} {f : PFunc} {i : PIns} {prow frow row : List AVal} (P : ProgR h p prow) (F : FuncR h f frow) (H : Hp p) (hl : i.list.length ≤ 24) (R : InsR h i row) :
  CallP AP 91 [.agg prow, .agg frow, .agg row] h fun r h' => HFrame h h' [] [] ∧ r = .int .i64 (callsF p f i) := by
 have F0 := F
 have P0 := P
 obtain ⟨sv,rv,cv,rfl,s4,s5,s6⟩ := F
 obtain ⟨tv,gv,fv,rfl,RT,RG,RF⟩ := P
 obtain ⟨hi,lv,rfl,L⟩ := R
 refine callP (rfl : Tr.get AP 91 = some A91) ?_
 generalize hQ : (fun (r : AVal) (h' : AHeap) => _) = Q
 have cl := SlIn.cellv L
 have c1 := SlIn.cellv s4
 have c2 := SlIn.cellv s5
 have c3 := SlR.cellv s6
 have c4 := SlR.cellv RT
 have c5 := SlIn.cellv RG
 have c6 := SlR.cellv RF
 have b1 := SlIn.beqv s4
 have b2 := SlIn.beqv s5
 have b3 := SlR.beqv s6
 have l3 := RF.len
 have f0 := (((HFrame.refl (h := h) (F := []) (by simp)).pushTmp (.cells 0 false [tv,gv,fv])).pushTmp (.cells 0 false [.int .i64 f.params,sv,rv,cv])).pushTmp (.cells 0 false [.int .i64 i.op, .int .i64 i.a, .int .i64 i.b, .int .i64 i.c, .int .u64 i.imm,lv])
 obtain ⟨hA,hhA⟩ : ∃ hA,hA = (((h.push (.cells 0 false [tv,gv,fv])).push (.cells 0 false [.int .i64 f.params,sv,rv,cv])).push (.cells 0 false [.int .i64 i.op, .int .i64 i.a, .int .i64 i.b, .int .i64 i.c, .int .u64 i.imm,lv])) := ⟨_,rfl⟩
 have gP : hA.get h.n = .cells 0 false [tv,gv,fv] := by rw [hhA]; simp -implicitDefEqProofs (disch := first|decide|assumption|omega|(simp -implicitDefEqProofs only [AM.RN];first|done|omega)|fail) only [↓AM.R0,AM.R1,AM.R2,Nat.reduceAdd,Nat.reduceLeDiff,Nat.reduceEqDiff,Int.reduceToNat,Nat.reduceLT,↓reduceIte,Int.reduceEq,Int.reduceLT,Int.reduceLE]
 have gF : hA.get (h.n + 1) = .cells 0 false [.int .i64 f.params,sv,rv,cv] := by rw [hhA]; simp -implicitDefEqProofs (disch := first|decide|assumption|omega|(simp -implicitDefEqProofs only [AM.RN];first|done|omega)|fail) only [↓AM.R0,AM.R1,AM.R2,Nat.reduceAdd,Nat.reduceLeDiff,Nat.reduceEqDiff,Int.reduceToNat,Nat.reduceLT,↓reduceIte,Int.reduceEq,Int.reduceLT,Int.reduceLE]
 have gI : hA.get (h.n + 1 + 1) = .cells 0 false [.int .i64 i.op, .int .i64 i.a, .int .i64 i.b, .int .i64 i.c, .int .u64 i.imm,lv] := by rw [hhA]; simp -implicitDefEqProofs (disch := first|decide|assumption|omega|(simp -implicitDefEqProofs only [AM.RN];first|done|omega)|fail) only [↓AM.R0,AM.R1,AM.R2,Nat.reduceAdd,Nat.reduceLeDiff,Nat.reduceEqDiff,Int.reduceToNat,Nat.reduceLT,↓reduceIte,Int.reduceEq,Int.reduceLT,Int.reduceLE]
 have nA : hA.n = h.n + 3 := by rw [hhA]; rfl
 simp -implicitDefEqProofs (disch := first|decide|assumption|omega|(simp -implicitDefEqProofs only [AM.RN];first|done|omega)|fail) only [↓AM.R0,AM.R1,AM.R2,Nat.reduceAdd,Nat.reduceLeDiff,Nat.reduceEqDiff,Int.reduceToNat,Nat.reduceLT,↓reduceIte,Int.reduceEq,Int.reduceLT,Int.reduceLE,cl,c1,c2,c3,c4,c5,c6]
 rw [← hhA] at f0 ⊢
 clear hhA
 refine AM.cI_bool (fun hb => ?_) (fun hb => ?_)
 ·simp only [decide_eq_true_eq] at hb
  simp -implicitDefEqProofs (disch := first|decide|assumption|omega|(simp -implicitDefEqProofs only [AM.RN];first|done|omega)|fail) only [↓AM.R0,AM.R1,AM.R2,Nat.reduceAdd,Nat.reduceLeDiff,Nat.reduceEqDiff,Int.reduceToNat,Nat.reduceLT,↓reduceIte,Int.reduceEq,Int.reduceLT,Int.reduceLE,gF,gI,c1,c2,c3]
  refine AM.callI_of (rListed (F0.keep f0) (L.keep f0) (s5.keep f0) (by omega)) ?_
  rintro r h2 ⟨f2,rfl⟩
  simp -implicitDefEqProofs (disch := first|decide|assumption|omega|(simp -implicitDefEqProofs only [AM.RN];first|done|omega)|fail) only [↓AM.R0,AM.R1,AM.R2,Nat.reduceAdd,Nat.reduceLeDiff,Nat.reduceEqDiff,Int.reduceToNat,Nat.reduceLT,↓reduceIte,Int.reduceEq,Int.reduceLT,Int.reduceLE]
  subst hQ
  exact ⟨f0.trans f2,by rw [callsF,if_pos hb]⟩
 ·simp only [decide_eq_false_iff_not] at hb
  have hm : callsF p f i = goF p f i := if_neg hb
  rw [hm] at hQ
  clear hm
  by_cases hin : 0 ≤ i.a ∧ i.a < p.funcs.length
  ·have d1 : decide ((p.funcs.length : Int) ≤ i.a) = false := decide_eq_false (by omega)
   have d2 : decide (i.a < 0) = false := decide_eq_false (by omega)
   obtain ⟨q,hq⟩ : ∃ t,p.funcs[i.a.toNat]? = some t := ⟨_,List.getElem?_eq_getElem (by omega)⟩
   obtain ⟨q1,q2,q3,q4⟩ := H q (List.mem_of_getElem? hq)
   obtain ⟨j,g2,off,vs,ro,row,x1,x2,x3,x4,x5,x6,qs,qr,qc,rfl,ys,yr,yc⟩ := (RF.mono (h' := hA) (R' := FuncR h) (fun _ _ q => q) f0.n (fun j hj => f0.get j hj (by simp))).ix hq .i64
   rw [show ((i.a.toNat : Nat) : Int) = i.a by omega] at x1
   have k1 := SlIn.cellv ys
   have k2 := SlIn.cellv yr
   have k3 := SlR.cellv yc
   have ls := ys.len
   have lr := yr.len
   simp -implicitDefEqProofs (disch := first|decide|assumption|omega|(simp -implicitDefEqProofs only [AM.RN];first|done|omega)|fail) only [↓AM.R0,AM.R1,AM.R2,Nat.reduceAdd,Nat.reduceLeDiff,Nat.reduceEqDiff,Int.reduceToNat,Nat.reduceLT,↓reduceIte,Int.reduceEq,Int.reduceLT,Int.reduceLE,gP,gI,l3,d1,d2,x1,x2,x5,k1,k2,k3]
   have fB := (f0.pushTmp (.cells 0 false [.int .i64 0, .nils, .nils, .nils])).setTmp (i := hA.n) f0.n (.cells 0 false [.int .i64 q.params,qs,qr,qc])
   obtain ⟨hB,hhB⟩ : ∃ hB,hB = (hA.push (.cells 0 false [.int .i64 0, .nils, .nils, .nils])).set hA.n (.cells 0 false [.int .i64 q.params,qs,qr,qc]) := ⟨_,rfl⟩
   have gG : hB.get hA.n = .cells 0 false [.int .i64 q.params,qs,qr,qc] := by rw [hhB]; exact AHeap.get_set_same _ _ _
   have gFB : hB.get (h.n + 1) = .cells 0 false [.int .i64 f.params,sv,rv,cv] := by rw [hhB,AHeap.get_set_ne _ _ (by omega), AHeap.get_push_ne _ _ (by omega)]; exact gF
   have gIB : hB.get (h.n + 1 + 1) = .cells 0 false [.int .i64 i.op, .int .i64 i.a, .int .i64 i.b, .int .i64 i.c, .int .u64 i.imm,lv] := by rw [hhB,AHeap.get_set_ne _ _ (by omega), AHeap.get_push_ne _ _ (by omega)]; exact gI
   have nB : hB.n = h.n + 4 := by rw [hhB]; simp; omega
   rw [← hhB] at fB ⊢
   clear hhB
   have hgo : goF p f i = if i.op ≠ 35 then (if q.results.length ≠ 0 then 13 else if (q.slots.take q.params.toNat).any (fun k => decide (k = 2)) = true then 10 else listF f.slots i.list (q.slots.take q.params.toNat)) else listF f.slots i.list (q.slots.take q.params.toNat ++ q.results) := by
    rw [goF,if_neg (by omega), hq]
   have lenP : (q.slots.take q.params.toNat).length = q.params.toNat := by rw [List.length_take]; omega
   refine AM.loopI_of (fun k e h' => ∃ (x : Nat) (u : AVal) (F' : List Nat), k + x = q.params.toNat ∧ e.val 4 = .ptr (h.n + 1) 0 0 ∧ e.val 5 = .ptr (h.n + 1 + 1) 0 0 ∧ e.val 7 = .ptr hA.n 0 0 ∧ e.val 8 = u ∧ e.val 9 = .int .i64 x ∧ HFrame hB h' [] F' ∧ SlOf h' 1 encK u ((q.slots.take q.params.toNat).take x) F') q.params.toNat ?_ ?_
   ·refine ⟨0, .nils, [],by omega, ?_, ?_, ?_, ?_, ?_,HFrame.refl (by simp), SlOf.nil⟩ <;> simp -implicitDefEqProofs (disch := first|decide|assumption|omega|(simp -implicitDefEqProofs only [AM.RN];first|done|omega)|fail) only [↓AM.R0,AM.R1,AM.R2,Nat.reduceAdd,Nat.reduceLeDiff,Nat.reduceEqDiff,Int.reduceToNat,Nat.reduceLT,↓reduceIte,Int.reduceEq,Int.reduceLT,Int.reduceLE] <;> rfl
   ·rintro k e h' ⟨x,u,F', hk,e3,e5,e7,e8,e9,fr,s⟩
    have gG' := (fr.get hA.n (by omega) (by simp)).trans gG
    have gF' := (fr.get (h.n + 1) (by omega) (by simp)).trans gFB
    have gI' := (fr.get (h.n + 1 + 1) (by omega) (by simp)).trans gIB
    have n' : h.n + 4 ≤ h'.n := by have := fr.n; omega
    have fh := HFrame.non (fB.trans fr)
    simp -implicitDefEqProofs (disch := first|decide|assumption|omega|(simp -implicitDefEqProofs only [AM.RN];first|done|omega)|fail) only [↓AM.R0,AM.R1,AM.R2,Nat.reduceAdd,Nat.reduceLeDiff,Nat.reduceEqDiff,Int.reduceToNat,Nat.reduceLT,↓reduceIte,Int.reduceEq,Int.reduceLT,Int.reduceLE,e7,e9,gG']
    refine AM.cI_bool (fun hx => ?_) (fun hx => ?_)
    ·simp only [decide_eq_true_eq] at hx
     obtain ⟨a,ha⟩ : ∃ a,q.slots[x]? = some a := ⟨_,List.getElem?_eq_getElem (by omega)⟩
     obtain ⟨j2,g3,off2,vs2,ro2,y1,y2,y3,y5⟩ := ((ys.keep fh).rd ha).ix1 (enc := fun n => .int .i64 n) ha .i64
     have hw : IntKind.i64.wrap ((x : Int) + 1) = ((x + 1 : Nat) : Int) := wrap64 (by omega) (by omega)
     have hat : (q.slots.take q.params.toNat)[x]? = some a := by rw [List.getElem?_take,if_pos (by omega)]; exact ha
     simp -implicitDefEqProofs (disch := first|decide|assumption|omega|(simp -implicitDefEqProofs only [AM.RN];first|done|omega)|fail) only [↓AM.R0,AM.R1,AM.R2,Nat.reduceAdd,Nat.reduceLeDiff,Nat.reduceEqDiff,Int.reduceToNat,Nat.reduceLT,↓reduceIte,Int.reduceEq,Int.reduceLT,Int.reduceLE,e3,e5,e7,e8,e9,gG', y1,y2,y5,AM.a_buildSlice,List.range,List.range.loop,List.getD_cons_zero,Nat.mod_one]
     refine AM.opI_of (SlOf.app1 s (fun _ => rfl) (fun _ => rfl) (by rw [List.length_take]; omega) a fun mv h4 F4 s4 f4 => ?_)
     simp -implicitDefEqProofs (disch := first|decide|assumption|omega|(simp -implicitDefEqProofs only [AM.RN];first|done|omega)|fail) only [↓AM.R0,AM.R1,AM.R2,Nat.reduceAdd,Nat.reduceLeDiff,Nat.reduceEqDiff,Int.reduceToNat,Nat.reduceLT,↓reduceIte,Int.reduceEq,Int.reduceLT,Int.reduceLE,e3,e5,e7,e8,e9,hw]
     refine ⟨q.params.toNat - (x + 1), by omega,x + 1,mv,F4,by omega,rfl,rfl,fr.trans f4, ?_⟩
     rw [take_succ_of hat]
     exact s4
    ·simp only [decide_eq_false_iff_not] at hx
     rw [List.take_of_length_le (by omega)] at s
     generalize q.slots.take q.params.toNat = ps at *
     simp -implicitDefEqProofs (disch := first|decide|assumption|omega|(simp -implicitDefEqProofs only [AM.RN];first|done|omega)|fail) only [↓AM.R0,AM.R1,AM.R2,Nat.reduceAdd,Nat.reduceLeDiff,Nat.reduceEqDiff,Int.reduceToNat,Nat.reduceLT,↓reduceIte,Int.reduceEq,Int.reduceLT,Int.reduceLE,e3,e5,e7,e8,e9,gI', gF', gG']
     have len8 := SlRd.len (SlOf.rd s)
     refine AM.cI_bool (fun hd => ?_) (fun hd => ?_)
     ·have hop : ¬ i.op ≠ 35 := by simpa using hd
      rw [if_neg hop] at hgo
      simp -implicitDefEqProofs (disch := first|decide|assumption|omega|(simp -implicitDefEqProofs only [AM.RN];first|done|omega)|fail) only [↓AM.R0,AM.R1,AM.R2,Nat.reduceAdd,Nat.reduceLeDiff,Nat.reduceEqDiff,Int.reduceToNat,Nat.reduceLT,↓reduceIte,Int.reduceEq,Int.reduceLT,Int.reduceLE,e3,e5,e7,e8,e9,gI', gF', gG']
      refine AM.opI_of (SlOf.appIn s (yr.keep fh) (fun _ => rfl) (fun _ => rfl) (by omega) fun v2 h4 F4 s4' f4 => ?_)
      have o' : ∀ j,j ∈ F' → h.n + 4 ≤ j := fun j hj => by
       rcases fr.new j hj with w | w
       ·cases w
       ·omega
      have gF4 := (f4.get (h.n + 1) (by omega) (fun hm => by have := o' _ hm; omega)).trans gF'
      have gI4 := (f4.get (h.n + 1 + 1) (by omega) (fun hm => by have := o' _ hm; omega)).trans gI'
      have n4 : h.n + 4 ≤ h4.n := by have := f4.n; omega
      have fh4 := HFrame.skip fh f4 (fun j hj => by have := o' j hj; omega)
      simp -implicitDefEqProofs (disch := first|decide|assumption|omega|(simp -implicitDefEqProofs only [AM.RN];first|done|omega)|fail) only [↓AM.R0,AM.R1,AM.R2,Nat.reduceAdd,Nat.reduceLeDiff,Nat.reduceEqDiff,Int.reduceToNat,Nat.reduceLT,↓reduceIte,Int.reduceEq,Int.reduceLT,Int.reduceLE,e3,e5,e7,e8,e9,gI4,gF4,c1,c2,c3]
      refine AM.callI_of (rListed (F0.keep fh4) (L.keep fh4) (.inl (SlOf.rd s4')) (by omega)) ?_
      rintro r h5 ⟨f5,rfl⟩
      simp -implicitDefEqProofs (disch := first|decide|assumption|omega|(simp -implicitDefEqProofs only [AM.RN];first|done|omega)|fail) only [↓AM.R0,AM.R1,AM.R2,Nat.reduceAdd,Nat.reduceLeDiff,Nat.reduceEqDiff,Int.reduceToNat,Nat.reduceLT,↓reduceIte,Int.reduceEq,Int.reduceLT,Int.reduceLE]
      subst hQ
      exact ⟨fh4.trans f5,by rw [hgo]⟩
     ·have hop : i.op ≠ 35 := by simpa using hd
      rw [if_pos hop] at hgo
      simp -implicitDefEqProofs (disch := first|decide|assumption|omega|(simp -implicitDefEqProofs only [AM.RN];first|done|omega)|fail) only [↓AM.R0,AM.R1,AM.R2,Nat.reduceAdd,Nat.reduceLeDiff,Nat.reduceEqDiff,Int.reduceToNat,Nat.reduceLT,↓reduceIte,Int.reduceEq,Int.reduceLT,Int.reduceLE,e3,e5,e7,e8,e9,gI', gF', gG', lr]
      refine AM.cI_bool (fun he => ?_) (fun he => ?_)
      ·simp only [decide_eq_true_eq] at he
       simp -implicitDefEqProofs (disch := first|decide|assumption|omega|(simp -implicitDefEqProofs only [AM.RN];first|done|omega)|fail) only [↓AM.R0,AM.R1,AM.R2,Nat.reduceAdd,Nat.reduceLeDiff,Nat.reduceEqDiff,Int.reduceToNat,Nat.reduceLT,↓reduceIte,Int.reduceEq,Int.reduceLT,Int.reduceLE]
       subst hQ
       exact ⟨fh,by rw [hgo,if_pos (by omega)]⟩
      ·simp only [decide_eq_false_iff_not] at he
       rw [if_neg (by omega)] at hgo
       simp -implicitDefEqProofs (disch := first|decide|assumption|omega|(simp -implicitDefEqProofs only [AM.RN];first|done|omega)|fail) only [↓AM.R0,AM.R1,AM.R2,Nat.reduceAdd,Nat.reduceLeDiff,Nat.reduceEqDiff,Int.reduceToNat,Nat.reduceLT,↓reduceIte,Int.reduceEq,Int.reduceLT,Int.reduceLE]
       have hFe : ∀ {H : AHeap}, H = h' → SlIn H 1 encK u ps := fun e => by subst e; exact .inl (SlOf.rd s)
       refine AM.loopI_of (fun k e h2 => ∃ y : Nat,k + y = ps.length ∧ e.val 4 = .ptr (h.n + 1) 0 0 ∧ e.val 5 = .ptr (h.n + 1 + 1) 0 0 ∧ e.val 8 = u ∧ e.val 10 = .int .i64 y ∧ h2 = h' ∧ ps.any (fun k => decide (k = 2)) = (ps.drop y).any (fun k => decide (k = 2))) ps.length ?_ ?_
       ·refine ⟨0,by omega, ?_, ?_, ?_, ?_,rfl,by simp⟩ <;> simp -implicitDefEqProofs (disch := first|decide|assumption|omega|(simp -implicitDefEqProofs only [AM.RN];first|done|omega)|fail) only [↓AM.R0,AM.R1,AM.R2,Nat.reduceAdd,Nat.reduceLeDiff,Nat.reduceEqDiff,Int.reduceToNat,Nat.reduceLT,↓reduceIte,Int.reduceEq,Int.reduceLT,Int.reduceLE,e3,e5,e8] <;> rfl
       ·clear e3 e5 e7 e8 e9
        rintro k e h2 ⟨y,hky,e4,e5,e8,e10,hh,ha⟩
        subst hh
        simp -implicitDefEqProofs (disch := first|decide|assumption|omega|(simp -implicitDefEqProofs only [AM.RN];first|done|omega)|fail) only [↓AM.R0,AM.R1,AM.R2,Nat.reduceAdd,Nat.reduceLeDiff,Nat.reduceEqDiff,Int.reduceToNat,Nat.reduceLT,↓reduceIte,Int.reduceEq,Int.reduceLT,Int.reduceLE,e8,e10,len8]
        refine AM.cI_bool (fun hy => ?_) (fun hy => ?_)
        ·simp only [decide_eq_true_eq] at hy
         obtain ⟨a,hax⟩ : ∃ a,ps[y]? = some a := ⟨_,List.getElem?_eq_getElem (by omega)⟩
         obtain ⟨j2,g3,off2,vs2,ro2,y1,y2,y3,y5⟩ := (SlOf.rd s).ix1 (enc := fun n => .int .i64 n) hax .i64
         have hw1 : IntKind.i64.wrap ((y : Int) + 1) = ((y + 1 : Nat) : Int) := (wrap64 (by omega) (by omega)).trans (by omega)
         rw [any_drop hax] at ha
         simp -implicitDefEqProofs (disch := first|decide|assumption|omega|(simp -implicitDefEqProofs only [AM.RN];first|done|omega)|fail) only [↓AM.R0,AM.R1,AM.R2,Nat.reduceAdd,Nat.reduceLeDiff,Nat.reduceEqDiff,Int.reduceToNat,Nat.reduceLT,↓reduceIte,Int.reduceEq,Int.reduceLT,Int.reduceLE,e4,e5,e8,e10,y1,y2,y5]
         refine AM.cI_bool (fun hz => ?_) (fun hz => ?_)
         ·simp -implicitDefEqProofs (disch := first|decide|assumption|omega|(simp -implicitDefEqProofs only [AM.RN];first|done|omega)|fail) only [↓AM.R0,AM.R1,AM.R2,Nat.reduceAdd,Nat.reduceLeDiff,Nat.reduceEqDiff,Int.reduceToNat,Nat.reduceLT,↓reduceIte,Int.reduceEq,Int.reduceLT,Int.reduceLE]
          rw [hz,Bool.true_or] at ha
          subst hQ
          exact ⟨fh,by rw [hgo,if_pos ha]⟩
         ·rw [hz,Bool.false_or] at ha
          simp -implicitDefEqProofs (disch := first|decide|assumption|omega|(simp -implicitDefEqProofs only [AM.RN];first|done|omega)|fail) only [↓AM.R0,AM.R1,AM.R2,Nat.reduceAdd,Nat.reduceLeDiff,Nat.reduceEqDiff,Int.reduceToNat,Nat.reduceLT,↓reduceIte,Int.reduceEq,Int.reduceLT,Int.reduceLE,e4,e5,e8,e10,hw1]
          exact ⟨ps.length - (y + 1), by omega,y + 1,by omega,rfl,ha⟩
        ·simp only [decide_eq_false_iff_not] at hy
         rw [List.drop_of_length_le (by omega), List.any_nil] at ha
         rw [if_neg (by simp [ha])] at hgo
         simp -implicitDefEqProofs (disch := first|decide|assumption|omega|(simp -implicitDefEqProofs only [AM.RN];first|done|omega)|fail) only [↓AM.R0,AM.R1,AM.R2,Nat.reduceAdd,Nat.reduceLeDiff,Nat.reduceEqDiff,Int.reduceToNat,Nat.reduceLT,↓reduceIte,Int.reduceEq,Int.reduceLT,Int.reduceLE,e4,e5,e8,gI', gF', c1,c2,c3]
         refine AM.callI_of (rListed (F0.keep fh) (L.keep fh) (.inl (SlOf.rd s)) (by omega)) ?_
         rintro r h3 ⟨f3,rfl⟩
         simp -implicitDefEqProofs (disch := first|decide|assumption|omega|(simp -implicitDefEqProofs only [AM.RN];first|done|omega)|fail) only [↓AM.R0,AM.R1,AM.R2,Nat.reduceAdd,Nat.reduceLeDiff,Nat.reduceEqDiff,Int.reduceToNat,Nat.reduceLT,↓reduceIte,Int.reduceEq,Int.reduceLT,Int.reduceLE]
         subst hQ
         exact ⟨fh.trans f3,by rw [hgo]⟩
  ·have hg : goF p f i = 13 := if_pos (by omega)
   rcases Int.lt_or_le i.a 0 with hlt | hle
   ·have d2 : decide (i.a < 0) = true := decide_eq_true (by omega)
    simp -implicitDefEqProofs (disch := first|decide|assumption|omega|(simp -implicitDefEqProofs only [AM.RN];first|done|omega)|fail) only [↓AM.R0,AM.R1,AM.R2,Nat.reduceAdd,Nat.reduceLeDiff,Nat.reduceEqDiff,Int.reduceToNat,Nat.reduceLT,↓reduceIte,Int.reduceEq,Int.reduceLT,Int.reduceLE,gI,d2]
    subst hQ
    exact ⟨f0,by rw [hg]⟩
   ·have d1 : decide ((p.funcs.length : Int) ≤ i.a) = true := decide_eq_true (by omega)
    have d2 : decide (i.a < 0) = false := decide_eq_false (by omega)
    simp -implicitDefEqProofs (disch := first|decide|assumption|omega|(simp -implicitDefEqProofs only [AM.RN];first|done|omega)|fail) only [↓AM.R0,AM.R1,AM.R2,Nat.reduceAdd,Nat.reduceLeDiff,Nat.reduceEqDiff,Int.reduceToNat,Nat.reduceLT,↓reduceIte,Int.reduceEq,Int.reduceLT,Int.reduceLE,gP,gI,l3,d1,d2]
    subst hQ
    exact ⟨f0,by rw [hg]⟩
end Go.Proofs.Ytofcnjglnnoimaa.Vf
namespace Go.Proofs.Ytofcnjglnnoimaa.Vf
open Go Go.AM Go.Proofs.Ytofcnjglnnoimaa.AmGW
attribute [local irreducible] AM.wp AM.wpIs AM.wpTr AM.opI AM.gI AM.cI AM.trI AM.callI AM.fnI AM.trG AM.trOp AM.trCall AM.seqC AM.loopI
set_option maxRecDepth 100000
set_option linter.unusedVariables false
set_option linter.unusedSimpArgs false
theorem kbad_true (nt : Nat) (l : List Int) : l.any (kbad true nt) = l.any (slotsBad nt) := by
 congr 1; funext k
 unfold kbad slotsBad
 cases kindF nt k <;> cases decide (k = 2) <;> rfl
theorem kbad_false (nt : Nat) (l : List Int) : l.any (kbad false nt) = l.any (fun k => !kindF nt k) := by
 congr 1; funext k
 unfold kbad
 cases kindF nt k <;> rfl
set_option maxHeartbeats 4000000 in
theorem rHead {h : AHeap} {p : PProg} {prow : List AVal} (P : ProgR h p prow) (ok : p.Ok) {n : Nat} {f : PFunc} (hf : p.funcs[n]? = some f) :
  CallP AP 36 [.agg prow, .int .i64 n] h fun r h' => HFrame h h' [] [] ∧ r = .int .i64 (headF p.types.length f (decide (n = 0))) := by
 have P0 := P
 obtain ⟨tv,gv,fv,rfl,RT,RG,RF⟩ := P
 refine callP (rfl : Tr.get AP 36 = some A36) ?_
 generalize hQ : (fun (r : AVal) (h' : AHeap) => _) = Q
 have c4 := SlR.cellv RT
 have c5 := SlIn.cellv RG
 have c6 := SlR.cellv RF
 have f0 := (HFrame.refl (h := h) (F := []) (by simp)).pushTmp (.cells 0 false [tv,gv,fv])
 have gP : (h.push (.cells 0 false [tv,gv,fv])).get h.n = .cells 0 false [tv,gv,fv] := AHeap.get_push_same _ _
 have nA : (h.push (.cells 0 false [tv,gv,fv])).n = h.n + 1 := by simp
 have okf := ok.funcs f (List.mem_of_getElem? hf)
 simp -implicitDefEqProofs (disch := first|decide|assumption|omega|(simp -implicitDefEqProofs only [AM.RN];first|done|omega)|fail) only [↓AM.R0,AM.R1,AM.R2,Nat.reduceAdd,Nat.reduceLeDiff,Nat.reduceEqDiff,Int.reduceToNat,Nat.reduceLT,↓reduceIte,Int.reduceEq,Int.reduceLT,Int.reduceLE,c4,c5,c6]
 generalize h.push (.cells 0 false [tv,gv,fv]) = hA at *
 obtain ⟨j,g2,off,vs,ro,row,x1,x2,x3,x4,x5,x6,sv,rv,cv,rfl,ys,yr,yc⟩ := (RF.mono (h' := hA) (R' := FuncR h) (fun _ _ q => q) f0.n (fun j hj => f0.get j hj (by simp))).ix hf .i64
 have k1 := SlIn.cellv ys
 have k2 := SlIn.cellv yr
 have k3 := SlR.cellv yc
 have ls := ys.len
 have lr := yr.len
 have lc := yc.len
 simp -implicitDefEqProofs (disch := first|decide|assumption|omega|(simp -implicitDefEqProofs only [AM.RN];first|done|omega)|fail) only [AM.RGB,↓AM.R0,AM.R1,AM.R2,Nat.reduceAdd,Nat.reduceLeDiff,Nat.reduceEqDiff,Int.reduceToNat,Nat.reduceLT,↓reduceIte,Int.reduceEq,Int.reduceLT,Int.reduceLE,gP,x1,x2,x5,k1,k2,k3,ls,lr,lc]
 have fB := (f0.pushTmp (.cells 0 false [.int .i64 0, .nils, .nils, .nils])).setTmp (i := hA.n) f0.n (.cells 0 false [.int .i64 f.params,sv,rv,cv])
 obtain ⟨hB,hhB⟩ : ∃ hB,hB = (hA.push (.cells 0 false [.int .i64 0, .nils, .nils, .nils])).set hA.n (.cells 0 false [.int .i64 f.params,sv,rv,cv]) := ⟨_,rfl⟩
 have gG : hB.get hA.n = .cells 0 false [.int .i64 f.params,sv,rv,cv] := by rw [hhB]; exact AHeap.get_set_same _ _ _
 have gPB : hB.get h.n = .cells 0 false [tv,gv,fv] := by rw [hhB,AHeap.get_set_ne _ _ (by omega), AHeap.get_push_ne _ _ (by omega)]; exact gP
 have nB : hB.n = hA.n + 1 := by rw [hhB]; rfl
 rw [← hhB] at fB ⊢
 clear hhB
 obtain ⟨X,hX⟩ : ∃ X,X = headF p.types.length f (decide (n = 0)) := ⟨_,rfl⟩
 rw [← hX] at hQ
 rw [headF] at hX
 refine AM.cI_bool (fun hb => ?_) (fun hb => ?_)
 ·simp -implicitDefEqProofs (disch := first|decide|assumption|omega|(simp -implicitDefEqProofs only [AM.RN];first|done|omega)|fail) only [↓AM.R0,AM.R1,AM.R2,Nat.reduceAdd,Nat.reduceLeDiff,Nat.reduceEqDiff,Int.reduceToNat,Nat.reduceLT,↓reduceIte,Int.reduceEq,Int.reduceLT,Int.reduceLE]
  simp only [Bool.or_eq_true,decide_eq_true_eq] at hb
  rw [if_pos (by omega)] at hX
  subst hQ
  exact ⟨fB,by rw [hX]⟩
 simp only [Bool.or_eq_false_iff,decide_eq_false_iff_not] at hb
 rw [if_neg (by omega)] at hX
 have hw : IntKind.i64.wrap (f.params + (f.results.length : Int)) = f.params + (f.results.length : Int) := wrap64 (by omega) (by omega)
 simp -implicitDefEqProofs (disch := first|decide|assumption|omega|(simp -implicitDefEqProofs only [AM.RN];first|done|omega)|fail) only [AM.RGB,↓AM.R0,AM.R1,AM.R2,Nat.reduceAdd,Nat.reduceLeDiff,Nat.reduceEqDiff,Int.reduceToNat,Nat.reduceLT,↓reduceIte,Int.reduceEq,Int.reduceLT,Int.reduceLE,gG,lr,hw]
 refine AM.cI_bool (fun hc => ?_) (fun hc => ?_)
 ·simp -implicitDefEqProofs (disch := first|decide|assumption|omega|(simp -implicitDefEqProofs only [AM.RN];first|done|omega)|fail) only [↓AM.R0,AM.R1,AM.R2,Nat.reduceAdd,Nat.reduceLeDiff,Nat.reduceEqDiff,Int.reduceToNat,Nat.reduceLT,↓reduceIte,Int.reduceEq,Int.reduceLT,Int.reduceLE]
  simp only [Bool.and_eq_true,decide_eq_true_eq] at hc
  rw [if_pos ⟨decide_eq_true (by omega), by omega⟩] at hX
  subst hQ
  exact ⟨fB,by rw [hX]⟩
 rw [if_neg (by
  rintro ⟨q1,q2⟩
  simp only [Bool.and_eq_false_iff,decide_eq_false_iff_not] at hc
  simp only [decide_eq_true_eq] at q1
  omega)] at hX
 simp -implicitDefEqProofs (disch := first|decide|assumption|omega|(simp -implicitDefEqProofs only [AM.RN];first|done|omega)|fail) only [↓AM.R0,AM.R1,AM.R2,Nat.reduceAdd,Nat.reduceLeDiff,Nat.reduceEqDiff,Int.reduceToNat,Nat.reduceLT,↓reduceIte,Int.reduceEq,Int.reduceLT,Int.reduceLE,gG,gPB]
 refine AM.callI_of (rKinds (P0.keep fB) (ys.keep fB) (by omega) okf.slots true) ?_
 rintro r h2 ⟨f2,rfl⟩
 rw [kbad_true]
 have gG2 := (f2.get hA.n (by omega) (by simp)).trans gG
 have gP2 := (f2.get h.n (by omega) (by simp)).trans gPB
 have n2 : hB.n ≤ h2.n := f2.n
 have f02 := fB.trans f2
 simp -implicitDefEqProofs (disch := first|decide|assumption|omega|(simp -implicitDefEqProofs only [AM.RN];first|done|omega)|fail) only [↓AM.R0,AM.R1,AM.R2,Nat.reduceAdd,Nat.reduceLeDiff,Nat.reduceEqDiff,Int.reduceToNat,Nat.reduceLT,↓reduceIte,Int.reduceEq,Int.reduceLT,Int.reduceLE]
 refine AM.gI_bool (fun hd => ?_) (fun hd => ?_)
 ·have hd' : f.slots.any (slotsBad p.types.length) = true := by simpa using hd
  rw [if_pos hd'] at hX
  simp -implicitDefEqProofs (disch := first|decide|assumption|omega|(simp -implicitDefEqProofs only [AM.RN];first|done|omega)|fail) only [↓AM.R0,AM.R1,AM.R2,Nat.reduceAdd,Nat.reduceLeDiff,Nat.reduceEqDiff,Int.reduceToNat,Nat.reduceLT,↓reduceIte,Int.reduceEq,Int.reduceLT,Int.reduceLE,hd']
  subst hQ
  exact ⟨f02,by rw [hX]⟩
 have hd' : f.slots.any (slotsBad p.types.length) = false := by simpa using hd
 rw [if_neg (by simp [hd'])] at hX
 simp -implicitDefEqProofs (disch := first|decide|assumption|omega|(simp -implicitDefEqProofs only [AM.RN];first|done|omega)|fail) only [↓AM.R0,AM.R1,AM.R2,Nat.reduceAdd,Nat.reduceLeDiff,Nat.reduceEqDiff,Int.reduceToNat,Nat.reduceLT,↓reduceIte,Int.reduceEq,Int.reduceLT,Int.reduceLE,hd', gG2,gP2]
 refine AM.callI_of (rKinds (P0.keep f02) (yr.keep f02) (by omega) okf.results false) ?_
 rintro r h3 ⟨f3,rfl⟩
 rw [kbad_false]
 have gG3 := (f3.get hA.n (by omega) (by simp)).trans gG2
 have n3 : h2.n ≤ h3.n := f3.n
 have f03 := f02.trans f3
 simp -implicitDefEqProofs (disch := first|decide|assumption|omega|(simp -implicitDefEqProofs only [AM.RN];first|done|omega)|fail) only [↓AM.R0,AM.R1,AM.R2,Nat.reduceAdd,Nat.reduceLeDiff,Nat.reduceEqDiff,Int.reduceToNat,Nat.reduceLT,↓reduceIte,Int.reduceEq,Int.reduceLT,Int.reduceLE,hd']
 refine AM.cI_bool (fun he => ?_) (fun he => ?_)
 ·simp -implicitDefEqProofs (disch := first|decide|assumption|omega|(simp -implicitDefEqProofs only [AM.RN];first|done|omega)|fail) only [↓AM.R0,AM.R1,AM.R2,Nat.reduceAdd,Nat.reduceLeDiff,Nat.reduceEqDiff,Int.reduceToNat,Nat.reduceLT,↓reduceIte,Int.reduceEq,Int.reduceLT,Int.reduceLE]
  rw [if_pos (by simpa using he)] at hX
  subst hQ
  exact ⟨f03,by rw [hX]⟩
 rw [if_neg (by rw [Bool.not_not] at he; rw [he]; simp)] at hX
 simp -implicitDefEqProofs (disch := first|decide|assumption|omega|(simp -implicitDefEqProofs only [AM.RN];first|done|omega)|fail) only [↓AM.R0,AM.R1,AM.R2,Nat.reduceAdd,Nat.reduceLeDiff,Nat.reduceEqDiff,Int.reduceToNat,Nat.reduceLT,↓reduceIte,Int.reduceEq,Int.reduceLT,Int.reduceLE,gG3,lc]
 refine AM.cI_bool (fun hg => ?_) (fun hg => ?_)
 ·simp only [decide_eq_true_eq] at hg
  simp -implicitDefEqProofs (disch := first|decide|assumption|omega|(simp -implicitDefEqProofs only [AM.RN];first|done|omega)|fail) only [↓AM.R0,AM.R1,AM.R2,Nat.reduceAdd,Nat.reduceLeDiff,Nat.reduceEqDiff,Int.reduceToNat,Nat.reduceLT,↓reduceIte,Int.reduceEq,Int.reduceLT,Int.reduceLE]
  rw [if_pos (by omega)] at hX
  subst hQ
  exact ⟨f03,by rw [hX]⟩
 simp only [decide_eq_false_iff_not] at hg
 rw [if_neg (by omega)] at hX
 obtain ⟨z,hz⟩ : ∃ z,f.code[f.code.length - 1]? = some z := ⟨_,List.getElem?_eq_getElem (by omega)⟩
 have hz2 : f.code.getLast? = some z := by rw [List.getLast?_eq_getElem?]; exact hz
 obtain ⟨j,g2,off,vs,ro,row,x1,x2,x3,x4,x5,x6,q7,lz,rfl,xl⟩ := (yc.mono (h' := h3) (R' := InsR h) (fun _ _ q => q) f03.n (fun j hj => f03.get j hj (by simp))).ix hz .i64
 have hw2 : IntKind.i64.wrap ((f.code.length : Int) - 1) = ((f.code.length - 1 : Nat) : Int) := (wrap64 (by omega) (by omega)).trans (by omega)
 have p0 : vs[off]? = some (.int .i64 z.op) := by
  have : ((vs.drop off).take 6)[0]? = some (.int .i64 z.op) := by rw [x5]; rfl
  rw [List.getElem?_take,if_pos (by omega), List.getElem?_drop] at this
  exact this
 rw [lastF,hz2] at hX
 simp only [Option.map_some,Option.getD_some] at hX
 simp -implicitDefEqProofs (disch := first|decide|assumption|omega|(simp -implicitDefEqProofs only [AM.RN];first|done|omega)|fail) only [AM.RGB,↓AM.R0,AM.R1,AM.R2,Nat.reduceAdd,Nat.reduceLeDiff,Nat.reduceEqDiff,Int.reduceToNat,Nat.reduceLT,↓reduceIte,Int.reduceEq,Int.reduceLT,Int.reduceLE,gG3,lc,hw2,x1,x2,p0]
 refine AM.cI_bool (fun hk => ?_) (fun hk => ?_)
 ·simp -implicitDefEqProofs (disch := first|decide|assumption|omega|(simp -implicitDefEqProofs only [AM.RN];first|done|omega)|fail) only [↓AM.R0,AM.R1,AM.R2,Nat.reduceAdd,Nat.reduceLeDiff,Nat.reduceEqDiff,Int.reduceToNat,Nat.reduceLT,↓reduceIte,Int.reduceEq,Int.reduceLT,Int.reduceLE]
  rw [if_neg] at hX
  ·subst hQ
   exact ⟨f03,by rw [hX]⟩
  ·simp only [Bool.and_eq_true,Bool.not_eq_true', decide_eq_false_iff_not] at hk
   simp [orB]; omega
 ·simp -implicitDefEqProofs (disch := first|decide|assumption|omega|(simp -implicitDefEqProofs only [AM.RN];first|done|omega)|fail) only [↓AM.R0,AM.R1,AM.R2,Nat.reduceAdd,Nat.reduceLeDiff,Nat.reduceEqDiff,Int.reduceToNat,Nat.reduceLT,↓reduceIte,Int.reduceEq,Int.reduceLT,Int.reduceLE]
  rw [if_pos] at hX
  ·subst hQ
   exact ⟨f03,by rw [hX]⟩
  ·simp only [Bool.and_eq_false_iff,Bool.not_eq_false', decide_eq_true_eq] at hk
   simp [orB]; omega
end Go.Proofs.Ytofcnjglnnoimaa.Vf
namespace Go.Proofs.Ytofcnjglnnoimaa.Vf
open Go Go.AM Go.Proofs.Ytofcnjglnnoimaa.AmGW
attribute [local irreducible] AM.wp AM.wpIs AM.wpTr AM.opI AM.gI AM.cI AM.trI AM.callI AM.fnI AM.trG AM.trOp AM.trCall AM.seqC AM.loopI
set_option maxRecDepth 100000
set_option linter.unusedVariables false
set_option linter.unusedSimpArgs false
set_option maxHeartbeats 4000000 in
theorem rTypes {h : AHeap} {p : PProg} {prow : List AVal} (P : ProgR h p prow) (ok : p.Ok) :
  CallP AP 35 [.agg prow] h fun r h' => HFrame h h' [] [] ∧ r = .tup [.int .i64 (typesF p).1, .int .i64 (typesF p).2] := by
 have P0 := P
 obtain ⟨tv,gv,fv,rfl,s1,s2,s3⟩ := P
 refine callP (rfl : Tr.get AP 35 = some A35) ?_
 generalize hQ : (fun (r : AVal) (h' : AHeap) => _) = Q
 have c4 := SlR.cellv s1
 have c5 := SlIn.cellv s2
 have c6 := SlR.cellv s3
 have b1 := SlR.beqv s1
 have b2 := SlIn.beqv s2
 have b3 := SlR.beqv s3
 have l1 := s1.len
 have l2 := s2.len
 have l3 := s3.len
 have f0 := (HFrame.refl (h := h) (F := []) (by simp)).pushTmp (.cells 0 false [tv,gv,fv])
 have gP : (h.push (.cells 0 false [tv,gv,fv])).get h.n = .cells 0 false [tv,gv,fv] := AHeap.get_push_same _ _
 have nA : (h.push (.cells 0 false [tv,gv,fv])).n = h.n + 1 := by simp
 simp -implicitDefEqProofs (disch := first|decide|assumption|omega|(simp -implicitDefEqProofs only [AM.RN];first|done|omega)|fail) only [AM.RGB,↓AM.R0,AM.R1,AM.R2,Nat.reduceAdd,Nat.reduceLeDiff,Nat.reduceEqDiff,Int.reduceToNat,Nat.reduceLT,↓reduceIte,Int.reduceEq,Int.reduceLT,Int.reduceLE,c4,c5,c6,l1,l2,l3]
 generalize h.push (.cells 0 false [tv,gv,fv]) = hA at *
 refine AM.cI_bool (fun hb => ?_) (fun hb => ?_)
 ·simp -implicitDefEqProofs (disch := first|decide|assumption|omega|(simp -implicitDefEqProofs only [AM.RN];first|done|omega)|fail) only [↓AM.R0,AM.R1,AM.R2,Nat.reduceAdd,Nat.reduceLeDiff,Nat.reduceEqDiff,Int.reduceToNat,Nat.reduceLT,↓reduceIte,Int.reduceEq,Int.reduceLT,Int.reduceLE]
  simp only [Bool.or_eq_true,decide_eq_true_eq] at hb
  subst hQ
  exact ⟨f0,by rw [typesF,if_pos (by omega)]⟩
 simp only [Bool.or_eq_false_iff,decide_eq_false_iff_not] at hb
 have hm : typesF p = if (firstE (tyF p.types.length) p.types 0).1 ≠ 0 then firstE (tyF p.types.length) p.types 0 else firstE (fun k => if kindF p.types.length k = true then 0 else 15) p.globals 0 := by
  rw [typesF,if_neg (by omega)]
 simp -implicitDefEqProofs (disch := first|decide|assumption|omega|(simp -implicitDefEqProofs only [AM.RN];first|done|omega)|fail) only [↓AM.R0,AM.R1,AM.R2,Nat.reduceAdd,Nat.reduceLeDiff,Nat.reduceEqDiff,Int.reduceToNat,Nat.reduceLT,↓reduceIte,Int.reduceEq,Int.reduceLT,Int.reduceLE]
 refine AM.loopI_of (fun k e h' => ∃ x : Nat,k + x = p.types.length ∧ e.val 1 = .ptr h.n 0 0 ∧ e.val 4 = .int .i64 x ∧ HFrame h h' [] [] ∧ h'.get h.n = .cells 0 false [tv,gv,fv] ∧ h.n < h'.n ∧ firstE (tyF p.types.length) p.types 0 = firstE (tyF p.types.length) (p.types.drop x) x) p.types.length ?_ ?_
 ·refine ⟨0,by omega, ?_, ?_,f0,gP,by omega,by simp⟩ <;> simp -implicitDefEqProofs (disch := first|decide|assumption|omega|(simp -implicitDefEqProofs only [AM.RN];first|done|omega)|fail) only [↓AM.R0,AM.R1,AM.R2,Nat.reduceAdd,Nat.reduceLeDiff,Nat.reduceEqDiff,Int.reduceToNat,Nat.reduceLT,↓reduceIte,Int.reduceEq,Int.reduceLT,Int.reduceLE] <;> rfl
 ·rintro k e h' ⟨x,hk,e1,e4,fr,gP', n', hF⟩
  simp -implicitDefEqProofs (disch := first|decide|assumption|omega|(simp -implicitDefEqProofs only [AM.RN];first|done|omega)|fail) only [↓AM.R0,AM.R1,AM.R2,Nat.reduceAdd,Nat.reduceLeDiff,Nat.reduceEqDiff,Int.reduceToNat,Nat.reduceLT,↓reduceIte,Int.reduceEq,Int.reduceLT,Int.reduceLE,e1,e4,gP', l1]
  refine AM.cI_bool (fun hc => ?_) (fun hc => ?_)
  ·simp only [decide_eq_true_eq] at hc
   obtain ⟨t,ht⟩ : ∃ t,p.types[x]? = some t := ⟨_,List.getElem?_eq_getElem (by omega)⟩
   obtain ⟨j,g2,off,vs,ro,row,x1,x2,x3,x4,x5,x6,fl,rfl,xl⟩ := (s1.mono (h' := h') (R' := TypeR h) (fun _ _ q => q) fr.n (fun j hj => fr.get j hj (by simp))).ix ht .i64
   have cf := SlIn.cellv xl
   have lx := xl.len
   obtain ⟨p1,p2⟩ := two_of x5
   have hw : IntKind.i64.wrap ((x : Int) + 1) = ((x + 1 : Nat) : Int) := wrap64 (by omega) (by omega)
   rw [firstE_drop ht] at hF
   simp -implicitDefEqProofs (disch := first|decide|assumption|omega|(simp -implicitDefEqProofs only [AM.RN];first|done|omega)|fail) only [AM.RGB,↓AM.R0,AM.R1,AM.R2,Nat.reduceAdd,Nat.reduceLeDiff,Nat.reduceEqDiff,Int.reduceToNat,Nat.reduceLT,↓reduceIte,Int.reduceEq,Int.reduceLT,Int.reduceLE,e1,e4,gP', x1,x2,x5,cf,lx]
   have fT := (fr.pushTmp (.cells 0 false [.bool false, .nils])).setTmp (i := h'.n) fr.n (.cells 0 false [.bool t.1,fl])
   obtain ⟨hB,hhB⟩ : ∃ hB,hB = (h'.push (.cells 0 false [.bool false, .nils])).set h'.n (.cells 0 false [.bool t.1,fl]) := ⟨_,rfl⟩
   have gT : hB.get h'.n = .cells 0 false [.bool t.1,fl] := by rw [hhB]; exact AHeap.get_set_same _ _ _
   have gPB : hB.get h.n = .cells 0 false [tv,gv,fv] := by rw [hhB,AHeap.get_set_ne _ _ (by omega), AHeap.get_push_ne _ _ (by omega)]; exact gP'
   have nB : hB.n = h'.n + 1 := by rw [hhB]; rfl
   rw [← hhB] at fT ⊢
   clear hhB
   refine AM.cI_bool (fun hd => ?_) (fun hd => ?_)
   ·simp -implicitDefEqProofs (disch := first|decide|assumption|omega|(simp -implicitDefEqProofs only [AM.RN];first|done|omega)|fail) only [↓AM.R0,AM.R1,AM.R2,Nat.reduceAdd,Nat.reduceLeDiff,Nat.reduceEqDiff,Int.reduceToNat,Nat.reduceLT,↓reduceIte,Int.reduceEq,Int.reduceLT,Int.reduceLE,e4]
    have h16 : tyF p.types.length t = 16 := by
     rw [tyF,if_pos]
     simp only [Bool.or_eq_true,Bool.and_eq_true,decide_eq_true_eq] at hd
     rcases hd with (q | q) | ⟨q1,q2⟩
     ·exact .inr (.inl (by omega))
     ·exact .inl (by omega)
     ·exact .inr (.inr ⟨q1,by omega⟩)
    rw [h16] at hF
    subst hQ
    exact ⟨fT,by rw [hm,hF]; rfl⟩
   ·simp only [Bool.or_eq_false_iff,Bool.and_eq_false_iff,decide_eq_false_iff_not] at hd
    have hty : tyF p.types.length t = if t.2.any (fun k => !kindF p.types.length k) = true then 10 else 0 := by
     rw [tyF,if_neg]
     rintro (q | q | ⟨q1,q2⟩)
     ·omega
     ·omega
     ·rcases hd.2 with w | w
      ·rw [q1] at w; cases w
      ·omega
    simp -implicitDefEqProofs (disch := first|decide|assumption|omega|(simp -implicitDefEqProofs only [AM.RN];first|done|omega)|fail) only [↓AM.R0,AM.R1,AM.R2,Nat.reduceAdd,Nat.reduceLeDiff,Nat.reduceEqDiff,Int.reduceToNat,Nat.reduceLT,↓reduceIte,Int.reduceEq,Int.reduceLT,Int.reduceLE,e1,gPB,gT]
    refine AM.callI_of (rKinds (P0.keep fT) (xl.keep fT) (by omega) (fun k hk => ok.types t (List.mem_of_getElem? ht) k hk) false) ?_
    rintro r h2 ⟨f2,rfl⟩
    rw [kbad_false]
    have gP2 := (f2.get h.n (by omega) (by simp)).trans gPB
    have n2 : hB.n ≤ h2.n := f2.n
    have f02 := fT.trans f2
    simp -implicitDefEqProofs (disch := first|decide|assumption|omega|(simp -implicitDefEqProofs only [AM.RN];first|done|omega)|fail) only [↓AM.R0,AM.R1,AM.R2,Nat.reduceAdd,Nat.reduceLeDiff,Nat.reduceEqDiff,Int.reduceToNat,Nat.reduceLT,↓reduceIte,Int.reduceEq,Int.reduceLT,Int.reduceLE]
    refine AM.cI_bool (fun hf => ?_) (fun hf => ?_)
    ·simp -implicitDefEqProofs (disch := first|decide|assumption|omega|(simp -implicitDefEqProofs only [AM.RN];first|done|omega)|fail) only [↓AM.R0,AM.R1,AM.R2,Nat.reduceAdd,Nat.reduceLeDiff,Nat.reduceEqDiff,Int.reduceToNat,Nat.reduceLT,↓reduceIte,Int.reduceEq,Int.reduceLT,Int.reduceLE,e4]
     have h10 : tyF p.types.length t = 10 := by rw [hty,if_pos (by simpa using hf)]
     rw [h10] at hF
     subst hQ
     exact ⟨f02,by rw [hm,hF]; rfl⟩
    ·rw [Bool.not_not] at hf
     rw [hty,hf,if_neg (by simp)] at hF
     simp -implicitDefEqProofs (disch := first|decide|assumption|omega|(simp -implicitDefEqProofs only [AM.RN];first|done|omega)|fail) only [↓AM.R0,AM.R1,AM.R2,Nat.reduceAdd,Nat.reduceLeDiff,Nat.reduceEqDiff,Int.reduceToNat,Nat.reduceLT,↓reduceIte,Int.reduceEq,Int.reduceLT,Int.reduceLE,e1,e4,hw]
     exact ⟨p.types.length - (x + 1), by omega,x + 1,by omega,rfl,f02,gP2,by omega,hF⟩
  ·simp only [decide_eq_false_iff_not] at hc
   rw [List.drop_of_length_le (by omega)] at hF
   have hm2 : typesF p = firstE (fun k => if kindF p.types.length k = true then 0 else 15) p.globals 0 := by rw [hm,hF]; rfl
   simp -implicitDefEqProofs (disch := first|decide|assumption|omega|(simp -implicitDefEqProofs only [AM.RN];first|done|omega)|fail) only [↓AM.R0,AM.R1,AM.R2,Nat.reduceAdd,Nat.reduceLeDiff,Nat.reduceEqDiff,Int.reduceToNat,Nat.reduceLT,↓reduceIte,Int.reduceEq,Int.reduceLT,Int.reduceLE,e1]
   refine AM.loopI_of (fun k e h2 => ∃ x : Nat,k + x = p.globals.length ∧ e.val 1 = .ptr h.n 0 0 ∧ e.val 7 = .int .i64 x ∧ HFrame h h2 [] [] ∧ h2.get h.n = .cells 0 false [tv,gv,fv] ∧ h.n < h2.n ∧ firstE (fun k => if kindF p.types.length k = true then (0 : Int) else 15) p.globals 0 = firstE (fun k => if kindF p.types.length k = true then (0 : Int) else 15) (p.globals.drop x) x) p.globals.length ?_ ?_
   ·refine ⟨0,by omega, ?_, ?_,fr,gP', n', by simp⟩ <;> simp -implicitDefEqProofs (disch := first|decide|assumption|omega|(simp -implicitDefEqProofs only [AM.RN];first|done|omega)|fail) only [↓AM.R0,AM.R1,AM.R2,Nat.reduceAdd,Nat.reduceLeDiff,Nat.reduceEqDiff,Int.reduceToNat,Nat.reduceLT,↓reduceIte,Int.reduceEq,Int.reduceLT,Int.reduceLE,e1] <;> rfl
   ·clear e1 e4 hk hc fr gP' n' hF
    rintro k e h2 ⟨x,hk,e1,e7,fr,gP', n', hF⟩
    simp -implicitDefEqProofs (disch := first|decide|assumption|omega|(simp -implicitDefEqProofs only [AM.RN];first|done|omega)|fail) only [↓AM.R0,AM.R1,AM.R2,Nat.reduceAdd,Nat.reduceLeDiff,Nat.reduceEqDiff,Int.reduceToNat,Nat.reduceLT,↓reduceIte,Int.reduceEq,Int.reduceLT,Int.reduceLE,e1,e7,gP', l2]
    refine AM.cI_bool (fun hc => ?_) (fun hc => ?_)
    ·simp only [decide_eq_true_eq] at hc
     obtain ⟨a,ha⟩ : ∃ a,p.globals[x]? = some a := ⟨_,List.getElem?_eq_getElem (by omega)⟩
     obtain ⟨j,g,off,vs,ro,hv,x2,x3,x5⟩ := SlRd.atK ((s2.keep fr).rd ha) ha
     subst hv
     have xi : ∀ (H : AHeap), H.get j = .cells g ro vs → ixV H 1 (.sl j g off p.globals.length 1) (.int .i64 (x : Int)) = some (.ptr j g (off + x), H) := fun H e => by
      have := AM.ix_sl (k := .i64) (n := (x : Int)) (len := p.globals.length) (esz := 1) (off := off) H e (by omega) (by omega)
      rw [Int.toNat_natCast,Nat.mul_one] at this; exact this
     have x1 := xi _ x2
     have bi : ∀ (k : IntKind) (n : Int), (AVal.int k n).beq (.int k n) = true := fun k n => by simp [AVal.beq]
     have bp : ∀ a b c, (AVal.ptr a b c).beq (.ptr a b c) = true := fun a b c => by simp [AVal.beq]
     have bs : ∀ a b c d e, (AVal.sl a b c d e).beq (AVal.sl a b c d e) = true := AM.beq_sl
     have hw : IntKind.i64.wrap ((x : Int) + 1) = ((x + 1 : Nat) : Int) := wrap64 (by omega) (by omega)
     rw [firstE_drop ha] at hF
     simp -implicitDefEqProofs (disch := first|decide|assumption|omega|(simp -implicitDefEqProofs only [AM.RN];first|done|omega)|fail) only [↓AM.R0,AM.R1,AM.R2,Nat.reduceAdd,Nat.reduceLeDiff,Nat.reduceEqDiff,Int.reduceToNat,Nat.reduceLT,↓reduceIte,Int.reduceEq,Int.reduceLT,Int.reduceLE,e1,e7,gP', x1,x2,x5]
     refine AM.trCall_of (rKind (P0.keep fr) a (ok.globals a (List.mem_of_getElem? ha))) ?_
     rintro r h3 ⟨f3,rfl⟩
     have gP3 := (f3.get h.n n' (by simp)).trans gP'
     have x23 := (f3.get j x3 (by simp)).trans x2
     have x13 := xi _ x23
     have n3 : h2.n ≤ h3.n := f3.n
     have f03 := fr.trans f3
     simp -implicitDefEqProofs (disch := first|decide|assumption|omega|(simp -implicitDefEqProofs only [AM.RN];first|done|omega)|fail) only [↓AM.R0,AM.R1,AM.R2,Nat.reduceAdd,Nat.reduceLeDiff,Nat.reduceEqDiff,Int.reduceToNat,Nat.reduceLT,↓reduceIte,Int.reduceEq,Int.reduceLT,Int.reduceLE,e1,e7,gP', gP3,x1,x13,x2,x23,x5,b1,b2,b3,bi,bp,bs,AM.sameO_some]
     refine AM.cI_bool (fun hf => ?_) (fun hf => ?_)
     ·simp -implicitDefEqProofs (disch := first|decide|assumption|omega|(simp -implicitDefEqProofs only [AM.RN];first|done|omega)|fail) only [↓AM.R0,AM.R1,AM.R2,Nat.reduceAdd,Nat.reduceLeDiff,Nat.reduceEqDiff,Int.reduceToNat,Nat.reduceLT,↓reduceIte,Int.reduceEq,Int.reduceLT,Int.reduceLE,e7]
      have hf' : kindF p.types.length a = false := by simpa using hf
      rw [hf'] at hF
      subst hQ
      exact ⟨f03,by rw [hm2,hF]; rfl⟩
     ·have hf' : kindF p.types.length a = true := by simpa using hf
      rw [hf'] at hF
      simp -implicitDefEqProofs (disch := first|decide|assumption|omega|(simp -implicitDefEqProofs only [AM.RN];first|done|omega)|fail) only [↓AM.R0,AM.R1,AM.R2,Nat.reduceAdd,Nat.reduceLeDiff,Nat.reduceEqDiff,Int.reduceToNat,Nat.reduceLT,↓reduceIte,Int.reduceEq,Int.reduceLT,Int.reduceLE,e1,e7,hw]
      exact ⟨p.globals.length - (x + 1), by omega,x + 1,by omega,rfl,f03,gP3,by omega,hF⟩
    ·simp only [decide_eq_false_iff_not] at hc
     rw [List.drop_of_length_le (by omega)] at hF
     simp -implicitDefEqProofs (disch := first|decide|assumption|omega|(simp -implicitDefEqProofs only [AM.RN];first|done|omega)|fail) only [↓AM.R0,AM.R1,AM.R2,Nat.reduceAdd,Nat.reduceLeDiff,Nat.reduceEqDiff,Int.reduceToNat,Nat.reduceLT,↓reduceIte,Int.reduceEq,Int.reduceLT,Int.reduceLE]
     subst hQ
     exact ⟨fr,by rw [hm2,hF]; rfl⟩
end Go.Proofs.Ytofcnjglnnoimaa.Vf
namespace Go.Proofs.Ytofcnjglnnoimaa.Vf
open Go Go.AM Go.Proofs.Ytofcnjglnnoimaa.AmGW
attribute [local irreducible] AM.wp AM.wpIs AM.wpTr AM.opI AM.gI AM.cI AM.trI AM.callI AM.fnI AM.trG AM.trOp AM.trCall AM.seqC AM.loopI
set_option maxRecDepth 100000
set_option linter.unusedVariables false
set_option linter.unusedSimpArgs false
set_option maxHeartbeats 8000000 in
theorem rChannels {h : AHeap} {p : PProg} {f : PFunc} {i : PIns} {frow row : List AVal} (F : FuncR h f frow) (R : InsR h i row) (H : Hs p f.slots) (hl : i.list.length ≤ 24) (hop : orB i.op [41,44,42,43,45] = true) :
  CallP AP 92 [.agg frow, .agg row] h fun r h' => HFrame h h' [] [] ∧ r = .int .i64 (channelsF f.slots i) := by
 have F0 := F
 obtain ⟨sv,rv,cv,rfl,s4,s5,s6⟩ := F
 obtain ⟨hi,lv,rfl,L⟩ := R
 refine callP (rfl : Tr.get AP 92 = some A92) ?_
 generalize hQ : (fun (r : AVal) (h' : AHeap) => _) = Q
 have cl := SlIn.cellv L
 have ll := L.len
 have bl := SlIn.beqv L
 have c1 := SlIn.cellv s4
 have c2 := SlIn.cellv s5
 have c3 := SlR.cellv s6
 have b1 := SlIn.beqv s4
 have b2 := SlIn.beqv s5
 have b3 := SlR.beqv s6
 have bi : ∀ (k : IntKind) (n : Int), (AVal.int k n).beq (.int k n) = true := fun k n => by simp [AVal.beq]
 have bp : ∀ a b c, (AVal.ptr a b c).beq (.ptr a b c) = true := fun a b c => by simp [AVal.beq]
 have bs : ∀ a b c d e, (AVal.sl a b c d e).beq (AVal.sl a b c d e) = true := AM.beq_sl
 have f0 := ((((HFrame.refl (h := h) (F := []) (by simp)).pushTmp (.cells 0 false [.int .i64 f.params,sv,rv,cv])).pushTmp (.cells 0 false [.int .i64 i.op, .int .i64 i.a, .int .i64 i.b, .int .i64 i.c, .int .u64 i.imm,lv])).pushTmp (.cells 0 false [.nils, .nils]))
 obtain ⟨hA,hhA⟩ : ∃ hA,hA = (((h.push (.cells 0 false [.int .i64 f.params,sv,rv,cv])).push (.cells 0 false [.int .i64 i.op, .int .i64 i.a, .int .i64 i.b, .int .i64 i.c, .int .u64 i.imm,lv])).push (.cells 0 false [.nils, .nils])) := ⟨_,rfl⟩
 have gF0 : hA.get (h.n) = .cells 0 false [.int .i64 f.params,sv,rv,cv] := by rw [hhA]; simp -implicitDefEqProofs (disch := first|decide|assumption|omega|(simp -implicitDefEqProofs only [AM.RN];first|done|omega)|fail) only [↓AM.R0,AM.R1,AM.R2,Nat.reduceAdd,Nat.reduceLeDiff,Nat.reduceEqDiff,Int.reduceToNat,Nat.reduceLT,↓reduceIte,Int.reduceEq,Int.reduceLT,Int.reduceLE]
 have gI0 : hA.get (h.n + 1) = .cells 0 false [.int .i64 i.op, .int .i64 i.a, .int .i64 i.b, .int .i64 i.c, .int .u64 i.imm,lv] := by rw [hhA]; simp -implicitDefEqProofs (disch := first|decide|assumption|omega|(simp -implicitDefEqProofs only [AM.RN];first|done|omega)|fail) only [↓AM.R0,AM.R1,AM.R2,Nat.reduceAdd,Nat.reduceLeDiff,Nat.reduceEqDiff,Int.reduceToNat,Nat.reduceLT,↓reduceIte,Int.reduceEq,Int.reduceLT,Int.reduceLE]
 have gW0 : hA.get (h.n + 1 + 1) = .cells 0 false [.nils, .nils] := by rw [hhA]; simp -implicitDefEqProofs (disch := first|decide|assumption|omega|(simp -implicitDefEqProofs only [AM.RN];first|done|omega)|fail) only [↓AM.R0,AM.R1,AM.R2,Nat.reduceAdd,Nat.reduceLeDiff,Nat.reduceEqDiff,Int.reduceToNat,Nat.reduceLT,↓reduceIte,Int.reduceEq,Int.reduceLT,Int.reduceLE]
 have n0 : h.n + 3 ≤ hA.n := by rw [hhA]; simp
 simp -implicitDefEqProofs (disch := first|decide|assumption|omega|(simp -implicitDefEqProofs only [AM.RN];first|done|omega)|fail) only [↓AM.R0,AM.R1,AM.R2,Nat.reduceAdd,Nat.reduceLeDiff,Nat.reduceEqDiff,Int.reduceToNat,Nat.reduceLT,↓reduceIte,Int.reduceEq,Int.reduceLT,Int.reduceLE,cl,c1,c2,c3]
 rw [← hhA] at f0 ⊢
 clear hhA
 refine cI_or (t := 18) (s := 17) (x := i.op) (by decide) [(20,44)] (by simp -implicitDefEqProofs (disch := first|decide|assumption|omega|(simp -implicitDefEqProofs only [AM.RN];first|done|omega)|fail) only [↓AM.R0,AM.R1,AM.R2,Nat.reduceAdd,Nat.reduceLeDiff,Nat.reduceEqDiff,Int.reduceToNat,Nat.reduceLT,↓reduceIte,Int.reduceEq,Int.reduceLT,Int.reduceLE,gF0,gI0,gW0]) (by simp -implicitDefEqProofs (disch := first|decide|assumption|omega|(simp -implicitDefEqProofs only [AM.RN];first|done|omega)|fail) only [↓AM.R0,AM.R1,AM.R2,Nat.reduceAdd,Nat.reduceLeDiff,Nat.reduceEqDiff,Int.reduceToNat,Nat.reduceLT,↓reduceIte,Int.reduceEq,Int.reduceLT,Int.reduceLE,gF0,gI0,gW0]) (by decide) ?_
 intro e' ht hk
 have e2' : Env.val e' 2 = .ptr h.n 0 0 := (hk 2 (by decide) (by decide)).trans (by simp -implicitDefEqProofs (disch := first|decide|assumption|omega|(simp -implicitDefEqProofs only [AM.RN];first|done|omega)|fail) only [↓AM.R0,AM.R1,AM.R2,Nat.reduceAdd,Nat.reduceLeDiff,Nat.reduceEqDiff,Int.reduceToNat,Nat.reduceLT,↓reduceIte,Int.reduceEq,Int.reduceLT,Int.reduceLE,gF0,gI0,gW0])
 have e3' : Env.val e' 3 = .ptr (h.n + 1) 0 0 := (hk 3 (by decide) (by decide)).trans (by simp -implicitDefEqProofs (disch := first|decide|assumption|omega|(simp -implicitDefEqProofs only [AM.RN];first|done|omega)|fail) only [↓AM.R0,AM.R1,AM.R2,Nat.reduceAdd,Nat.reduceLeDiff,Nat.reduceEqDiff,Int.reduceToNat,Nat.reduceLT,↓reduceIte,Int.reduceEq,Int.reduceLT,Int.reduceLE,gF0,gI0,gW0])
 have e5' : Env.val e' 5 = .ptr (h.n + 1 + 1) 0 0 := (hk 5 (by decide) (by decide)).trans (by simp -implicitDefEqProofs (disch := first|decide|assumption|omega|(simp -implicitDefEqProofs only [AM.RN];first|done|omega)|fail) only [↓AM.R0,AM.R1,AM.R2,Nat.reduceAdd,Nat.reduceLeDiff,Nat.reduceEqDiff,Int.reduceToNat,Nat.reduceLT,↓reduceIte,Int.reduceEq,Int.reduceLT,Int.reduceLE,gF0,gI0,gW0])
 have e17' : Env.val e' 17 = .int .i64 i.op := (hk 17 (by decide) (by decide)).trans (by simp -implicitDefEqProofs (disch := first|decide|assumption|omega|(simp -implicitDefEqProofs only [AM.RN];first|done|omega)|fail) only [↓AM.R0,AM.R1,AM.R2,Nat.reduceAdd,Nat.reduceLeDiff,Nat.reduceEqDiff,Int.reduceToNat,Nat.reduceLT,↓reduceIte,Int.reduceEq,Int.reduceLT,Int.reduceLE,gF0,gI0,gW0])
 clear hk
 try clear e2
 have e2 := e2'
 clear e2'
 try clear e3
 have e3 := e3'
 clear e3'
 try clear e5
 have e5 := e5'
 clear e5'
 try clear e17
 have e17 := e17'
 clear e17'
 simp -implicitDefEqProofs (disch := first|decide|assumption|omega|(simp -implicitDefEqProofs only [AM.RN];first|done|omega)|fail) only [↓AM.R0,AM.R1,AM.R2,Nat.reduceAdd,Nat.reduceLeDiff,Nat.reduceEqDiff,Int.reduceToNat,Nat.reduceLT,↓reduceIte,Int.reduceEq,Int.reduceLT,Int.reduceLE,ht]
 refine AM.cI_bool (fun hb => ?_) (fun hb => ?_)
 ·have m : orB i.op [41,44] = true := hb
  simp -implicitDefEqProofs (disch := first|decide|assumption|omega|(simp -implicitDefEqProofs only [AM.RN];first|done|omega)|fail) only [↓AM.R0,AM.R1,AM.R2,Nat.reduceAdd,Nat.reduceLeDiff,Nat.reduceEqDiff,Int.reduceToNat,Nat.reduceLT,↓reduceIte,Int.reduceEq,Int.reduceLT,Int.reduceLE,e2,e3,gI0]
  refine AM.cI_bool (fun hd => ?_) (fun hd => ?_)
  ·simp only [decide_eq_true_eq] at hd
   simp -implicitDefEqProofs (disch := first|decide|assumption|omega|(simp -implicitDefEqProofs only [AM.RN];first|done|omega)|fail) only [↓AM.R0,AM.R1,AM.R2,Nat.reduceAdd,Nat.reduceLeDiff,Nat.reduceEqDiff,Int.reduceToNat,Nat.reduceLT,↓reduceIte,Int.reduceEq,Int.reduceLT,Int.reduceLE]
   subst hQ
   exact ⟨f0,by rw [channelsF,if_pos m,if_pos (by omega)]⟩
  ·simp only [decide_eq_false_iff_not] at hd
   simp -implicitDefEqProofs (disch := first|decide|assumption|omega|(simp -implicitDefEqProofs only [AM.RN];first|done|omega)|fail) only [↓AM.R0,AM.R1,AM.R2,Nat.reduceAdd,Nat.reduceLeDiff,Nat.reduceEqDiff,Int.reduceToNat,Nat.reduceLT,↓reduceIte,Int.reduceEq,Int.reduceLT,Int.reduceLE,e2,e3,gF0,gI0,c1,c2,c3]
   refine AM.callI_of (rCarries (F0.keep f0) H i.a) ?_
   rintro r h2 ⟨f2,rfl⟩
   simp -implicitDefEqProofs (disch := first|decide|assumption|omega|(simp -implicitDefEqProofs only [AM.RN];first|done|omega)|fail) only [↓AM.R0,AM.R1,AM.R2,Nat.reduceAdd,Nat.reduceLeDiff,Nat.reduceEqDiff,Int.reduceToNat,Nat.reduceLT,↓reduceIte,Int.reduceEq,Int.reduceLT,Int.reduceLE]
   subst hQ
   exact ⟨f0.trans f2,by rw [channelsF,if_pos m,if_neg (by omega)]⟩
 have m : orB i.op [41,44] = false := hb
 clear hb ht
 simp -implicitDefEqProofs (disch := first|decide|assumption|omega|(simp -implicitDefEqProofs only [AM.RN];first|done|omega)|fail) only [↓AM.R0,AM.R1,AM.R2,Nat.reduceAdd,Nat.reduceLeDiff,Nat.reduceEqDiff,Int.reduceToNat,Nat.reduceLT,↓reduceIte,Int.reduceEq,Int.reduceLT,Int.reduceLE,e17]
 refine AM.cI_bool (fun hb => ?_) (fun hb => ?_)
 ·simp only [decide_eq_true_eq] at hb
  simp -implicitDefEqProofs (disch := first|decide|assumption|omega|(simp -implicitDefEqProofs only [AM.RN];first|done|omega)|fail) only [↓AM.R0,AM.R1,AM.R2,Nat.reduceAdd,Nat.reduceLeDiff,Nat.reduceEqDiff,Int.reduceToNat,Nat.reduceLT,↓reduceIte,Int.reduceEq,Int.reduceLT,Int.reduceLE,e2,e3,gF0,gI0,c1,c2,c3]
  refine AM.callI_of (rCarries (F0.keep f0) H i.a) ?_
  rintro r h1 ⟨f1,rfl⟩
  have n1 : h.n + 3 ≤ h1.n := by have := f1.n; omega
  have gF1 : h1.get (h.n) = .cells 0 false [.int .i64 f.params,sv,rv,cv] := (f1.get _ (by omega) (by simp)).trans gF0
  have gI1 : h1.get (h.n + 1) = .cells 0 false [.int .i64 i.op, .int .i64 i.a, .int .i64 i.b, .int .i64 i.c, .int .u64 i.imm,lv] := (f1.get _ (by omega) (by simp)).trans gI0
  have gW1 : h1.get (h.n + 1 + 1) = .cells 0 false [.nils, .nils] := (f1.get _ (by omega) (by simp)).trans gW0
  have f01 := f0.trans f1
  have hm : channelsF f.slots i = sendF f.slots i i.a i.b := by rw [channelsF,if_neg (by rw [m]; exact Bool.false_ne_true), if_neg (by omega), if_neg (by omega)]
  rw [hm] at hQ
  simp -implicitDefEqProofs (disch := first|decide|assumption|omega|(simp -implicitDefEqProofs only [AM.RN];first|done|omega)|fail) only [↓AM.R0,AM.R1,AM.R2,Nat.reduceAdd,Nat.reduceLeDiff,Nat.reduceEqDiff,Int.reduceToNat,Nat.reduceLT,↓reduceIte,Int.reduceEq,Int.reduceLT,Int.reduceLE,e2,e3,e5]
  refine AM.cI_bool (fun hc => ?_) (fun hc => ?_)
  ·have hc' : (chanF f.slots i.a).2 ≠ 0 := by simpa using hc
   simp -implicitDefEqProofs (disch := first|decide|assumption|omega|(simp -implicitDefEqProofs only [AM.RN];first|done|omega)|fail) only [↓AM.R0,AM.R1,AM.R2,Nat.reduceAdd,Nat.reduceLeDiff,Nat.reduceEqDiff,Int.reduceToNat,Nat.reduceLT,↓reduceIte,Int.reduceEq,Int.reduceLT,Int.reduceLE]
   subst hQ
   exact ⟨f01,by rw [sendF,if_pos hc']⟩
  have hc' : ¬ (chanF f.slots i.a).2 ≠ 0 := by simpa using hc
  simp -implicitDefEqProofs (disch := first|decide|assumption|omega|(simp -implicitDefEqProofs only [AM.RN];first|done|omega)|fail) only [↓AM.R0,AM.R1,AM.R2,Nat.reduceAdd,Nat.reduceLeDiff,Nat.reduceEqDiff,Int.reduceToNat,Nat.reduceLT,↓reduceIte,Int.reduceEq,Int.reduceLT,Int.reduceLE,e2,e3,e5,gF1,gI1,gW1,c1,c2,c3]
  refine AM.trCall_of (rAnd (a := []) (b := []) nilW (by simp) (by simp) i.b (chanF f.slots i.a).1) ?_
  rintro r hm1_0 ⟨fm1_0,wr,rfl,W0⟩
  replace W0 : WantR hm1_0 wr [i.b] [(chanF f.slots i.a).1] := W0
  obtain ⟨va0,ka0,rfl,Wa0,Wb0⟩ := W0
  have cwa0 := SlIn.cellv Wa0
  have cwb0 := SlIn.cellv Wb0
  have bwa0 := SlIn.beqv Wa0
  have bwb0 := SlIn.beqv Wb0
  have n2 : h.n + 3 ≤ hm1_0.n := by have := fm1_0.n; omega
  have gF2 : hm1_0.get (h.n) = .cells 0 false [.int .i64 f.params,sv,rv,cv] := (fm1_0.get _ (by omega) (by simp)).trans gF1
  have gI2 : hm1_0.get (h.n + 1) = .cells 0 false [.int .i64 i.op, .int .i64 i.a, .int .i64 i.b, .int .i64 i.c, .int .u64 i.imm,lv] := (fm1_0.get _ (by omega) (by simp)).trans gI1
  have gW2 : hm1_0.get (h.n + 1 + 1) = .cells 0 false [.nils, .nils] := (fm1_0.get _ (by omega) (by simp)).trans gW1
  have f02 := f01.trans fm1_0
  simp -implicitDefEqProofs (disch := first|decide|assumption|omega|(simp -implicitDefEqProofs only [AM.RN];first|done|omega)|fail) only [↓AM.R0,AM.R1,AM.R2,Nat.reduceAdd,Nat.reduceLeDiff,Nat.reduceEqDiff,Int.reduceToNat,Nat.reduceLT,↓reduceIte,Int.reduceEq,Int.reduceLT,Int.reduceLE,gF0,gI0,gW0,gF1,gI1,gW1,gF2,gI2,gW2,cwa0,cwb0,bwa0,bwb0,b1,b2,b3,bl,bi,bp,bs,AM.sameO_some,cl,c1,c2,c3,e2,e3,e5]
  refine AM.trCall_of (rMet (F0.keep f02) (l := [(i.b, (chanF f.slots i.a).1)]) ⟨va0,ka0,rfl,Wa0,Wb0⟩ (by simp)) ?_
  rintro r hm2_9 ⟨fm2_9,rfl⟩
  have n3 : h.n + 3 ≤ hm2_9.n := by have := fm2_9.n; omega
  have gF3 : hm2_9.get (h.n) = .cells 0 false [.int .i64 f.params,sv,rv,cv] := (fm2_9.get _ (by omega) (by simp)).trans gF2
  have gI3 : hm2_9.get (h.n + 1) = .cells 0 false [.int .i64 i.op, .int .i64 i.a, .int .i64 i.b, .int .i64 i.c, .int .u64 i.imm,lv] := (fm2_9.get _ (by omega) (by simp)).trans gI2
  have gW3 : hm2_9.get (h.n + 1 + 1) = .cells 0 false [.nils, .nils] := (fm2_9.get _ (by omega) (by simp)).trans gW2
  have f03 := f02.trans fm2_9
  simp -implicitDefEqProofs (disch := first|decide|assumption|omega|(simp -implicitDefEqProofs only [AM.RN];first|done|omega)|fail) only [↓AM.R0,AM.R1,AM.R2,Nat.reduceAdd,Nat.reduceLeDiff,Nat.reduceEqDiff,Int.reduceToNat,Nat.reduceLT,↓reduceIte,Int.reduceEq,Int.reduceLT,Int.reduceLE,gF0,gI0,gW0,gF1,gI1,gW1,gF2,gI2,gW2,gF3,gI3,gW3,cwa0,cwb0,bwa0,bwb0,b1,b2,b3,bl,bi,bp,bs,AM.sameO_some,cl,c1,c2,c3,e2,e3,e5]
  subst hQ
  exact ⟨f03,by rw [sendF,if_neg hc', if_neg (by omega)]⟩
 simp only [decide_eq_false_iff_not] at hb
 simp -implicitDefEqProofs (disch := first|decide|assumption|omega|(simp -implicitDefEqProofs only [AM.RN];first|done|omega)|fail) only [↓AM.R0,AM.R1,AM.R2,Nat.reduceAdd,Nat.reduceLeDiff,Nat.reduceEqDiff,Int.reduceToNat,Nat.reduceLT,↓reduceIte,Int.reduceEq,Int.reduceLT,Int.reduceLE,e17]
 refine AM.cI_bool (fun hb2 => ?_) (fun hb2 => ?_)
 ·simp only [decide_eq_true_eq] at hb2
  simp -implicitDefEqProofs (disch := first|decide|assumption|omega|(simp -implicitDefEqProofs only [AM.RN];first|done|omega)|fail) only [↓AM.R0,AM.R1,AM.R2,Nat.reduceAdd,Nat.reduceLeDiff,Nat.reduceEqDiff,Int.reduceToNat,Nat.reduceLT,↓reduceIte,Int.reduceEq,Int.reduceLT,Int.reduceLE,e2,e3,gF0,gI0,c1,c2,c3]
  refine AM.callI_of (rCarries (F0.keep f0) H i.b) ?_
  rintro r h1 ⟨f1,rfl⟩
  have n1 : h.n + 3 ≤ h1.n := by have := f1.n; omega
  have gF1 : h1.get (h.n) = .cells 0 false [.int .i64 f.params,sv,rv,cv] := (f1.get _ (by omega) (by simp)).trans gF0
  have gI1 : h1.get (h.n + 1) = .cells 0 false [.int .i64 i.op, .int .i64 i.a, .int .i64 i.b, .int .i64 i.c, .int .u64 i.imm,lv] := (f1.get _ (by omega) (by simp)).trans gI0
  have gW1 : h1.get (h.n + 1 + 1) = .cells 0 false [.nils, .nils] := (f1.get _ (by omega) (by simp)).trans gW0
  have f01 := f0.trans f1
  have hm : channelsF f.slots i = sendF f.slots i i.b i.a := by rw [channelsF,if_neg (by rw [m]; exact Bool.false_ne_true), if_pos hb2]
  rw [hm] at hQ
  simp -implicitDefEqProofs (disch := first|decide|assumption|omega|(simp -implicitDefEqProofs only [AM.RN];first|done|omega)|fail) only [↓AM.R0,AM.R1,AM.R2,Nat.reduceAdd,Nat.reduceLeDiff,Nat.reduceEqDiff,Int.reduceToNat,Nat.reduceLT,↓reduceIte,Int.reduceEq,Int.reduceLT,Int.reduceLE,e2,e3,e5]
  refine AM.cI_bool (fun hc => ?_) (fun hc => ?_)
  ·have hc' : (chanF f.slots i.b).2 ≠ 0 := by simpa using hc
   simp -implicitDefEqProofs (disch := first|decide|assumption|omega|(simp -implicitDefEqProofs only [AM.RN];first|done|omega)|fail) only [↓AM.R0,AM.R1,AM.R2,Nat.reduceAdd,Nat.reduceLeDiff,Nat.reduceEqDiff,Int.reduceToNat,Nat.reduceLT,↓reduceIte,Int.reduceEq,Int.reduceLT,Int.reduceLE]
   subst hQ
   exact ⟨f01,by rw [sendF,if_pos hc']⟩
  have hc' : ¬ (chanF f.slots i.b).2 ≠ 0 := by simpa using hc
  simp -implicitDefEqProofs (disch := first|decide|assumption|omega|(simp -implicitDefEqProofs only [AM.RN];first|done|omega)|fail) only [↓AM.R0,AM.R1,AM.R2,Nat.reduceAdd,Nat.reduceLeDiff,Nat.reduceEqDiff,Int.reduceToNat,Nat.reduceLT,↓reduceIte,Int.reduceEq,Int.reduceLT,Int.reduceLE,e2,e3,e5,gF1,gI1,gW1,c1,c2,c3]
  refine AM.trCall_of (rAnd (a := []) (b := []) nilW (by simp) (by simp) i.a (chanF f.slots i.b).1) ?_
  rintro r hm1_0 ⟨fm1_0,wr,rfl,W0⟩
  replace W0 : WantR hm1_0 wr [i.a] [(chanF f.slots i.b).1] := W0
  obtain ⟨va0,ka0,rfl,Wa0,Wb0⟩ := W0
  have cwa0 := SlIn.cellv Wa0
  have cwb0 := SlIn.cellv Wb0
  have bwa0 := SlIn.beqv Wa0
  have bwb0 := SlIn.beqv Wb0
  have n2 : h.n + 3 ≤ hm1_0.n := by have := fm1_0.n; omega
  have gF2 : hm1_0.get (h.n) = .cells 0 false [.int .i64 f.params,sv,rv,cv] := (fm1_0.get _ (by omega) (by simp)).trans gF1
  have gI2 : hm1_0.get (h.n + 1) = .cells 0 false [.int .i64 i.op, .int .i64 i.a, .int .i64 i.b, .int .i64 i.c, .int .u64 i.imm,lv] := (fm1_0.get _ (by omega) (by simp)).trans gI1
  have gW2 : hm1_0.get (h.n + 1 + 1) = .cells 0 false [.nils, .nils] := (fm1_0.get _ (by omega) (by simp)).trans gW1
  have f02 := f01.trans fm1_0
  simp -implicitDefEqProofs (disch := first|decide|assumption|omega|(simp -implicitDefEqProofs only [AM.RN];first|done|omega)|fail) only [↓AM.R0,AM.R1,AM.R2,Nat.reduceAdd,Nat.reduceLeDiff,Nat.reduceEqDiff,Int.reduceToNat,Nat.reduceLT,↓reduceIte,Int.reduceEq,Int.reduceLT,Int.reduceLE,gF0,gI0,gW0,gF1,gI1,gW1,gF2,gI2,gW2,cwa0,cwb0,bwa0,bwb0,b1,b2,b3,bl,bi,bp,bs,AM.sameO_some,cl,c1,c2,c3,e2,e3,e5]
  refine AM.trCall_of (rAnd (a := [i.a]) (b := [(chanF f.slots i.b).1]) ⟨va0,ka0,rfl,Wa0,Wb0⟩ (by simp) (by simp) i.c 0) ?_
  rintro r hm2_1 ⟨fm2_1,wr,rfl,W1⟩
  replace W1 : WantR hm2_1 wr [i.a,i.c] [(chanF f.slots i.b).1,0] := W1
  obtain ⟨va1,ka1,rfl,Wa1,Wb1⟩ := W1
  have cwa1 := SlIn.cellv Wa1
  have cwb1 := SlIn.cellv Wb1
  have bwa1 := SlIn.beqv Wa1
  have bwb1 := SlIn.beqv Wb1
  have n3 : h.n + 3 ≤ hm2_1.n := by have := fm2_1.n; omega
  have gF3 : hm2_1.get (h.n) = .cells 0 false [.int .i64 f.params,sv,rv,cv] := (fm2_1.get _ (by omega) (by simp)).trans gF2
  have gI3 : hm2_1.get (h.n + 1) = .cells 0 false [.int .i64 i.op, .int .i64 i.a, .int .i64 i.b, .int .i64 i.c, .int .u64 i.imm,lv] := (fm2_1.get _ (by omega) (by simp)).trans gI2
  have gW3 : hm2_1.get (h.n + 1 + 1) = .cells 0 false [.nils, .nils] := (fm2_1.get _ (by omega) (by simp)).trans gW2
  have f03 := f02.trans fm2_1
  simp -implicitDefEqProofs (disch := first|decide|assumption|omega|(simp -implicitDefEqProofs only [AM.RN];first|done|omega)|fail) only [↓AM.R0,AM.R1,AM.R2,Nat.reduceAdd,Nat.reduceLeDiff,Nat.reduceEqDiff,Int.reduceToNat,Nat.reduceLT,↓reduceIte,Int.reduceEq,Int.reduceLT,Int.reduceLE,gF0,gI0,gW0,gF1,gI1,gW1,gF2,gI2,gW2,gF3,gI3,gW3,cwa0,cwb0,bwa0,bwb0,cwa1,cwb1,bwa1,bwb1,b1,b2,b3,bl,bi,bp,bs,AM.sameO_some,cl,c1,c2,c3,e2,e3,e5]
  refine AM.trCall_of (rMet (F0.keep f03) (l := [(i.a, (chanF f.slots i.b).1), (i.c,0)]) ⟨va1,ka1,rfl,Wa1,Wb1⟩ (by simp)) ?_
  rintro r hm3_9 ⟨fm3_9,rfl⟩
  have n4 : h.n + 3 ≤ hm3_9.n := by have := fm3_9.n; omega
  have gF4 : hm3_9.get (h.n) = .cells 0 false [.int .i64 f.params,sv,rv,cv] := (fm3_9.get _ (by omega) (by simp)).trans gF3
  have gI4 : hm3_9.get (h.n + 1) = .cells 0 false [.int .i64 i.op, .int .i64 i.a, .int .i64 i.b, .int .i64 i.c, .int .u64 i.imm,lv] := (fm3_9.get _ (by omega) (by simp)).trans gI3
  have gW4 : hm3_9.get (h.n + 1 + 1) = .cells 0 false [.nils, .nils] := (fm3_9.get _ (by omega) (by simp)).trans gW3
  have f04 := f03.trans fm3_9
  simp -implicitDefEqProofs (disch := first|decide|assumption|omega|(simp -implicitDefEqProofs only [AM.RN];first|done|omega)|fail) only [↓AM.R0,AM.R1,AM.R2,Nat.reduceAdd,Nat.reduceLeDiff,Nat.reduceEqDiff,Int.reduceToNat,Nat.reduceLT,↓reduceIte,Int.reduceEq,Int.reduceLT,Int.reduceLE,gF0,gI0,gW0,gF1,gI1,gW1,gF2,gI2,gW2,gF3,gI3,gW3,gF4,gI4,gW4,cwa0,cwb0,bwa0,bwb0,cwa1,cwb1,bwa1,bwb1,b1,b2,b3,bl,bi,bp,bs,AM.sameO_some,cl,c1,c2,c3,e2,e3,e5]
  subst hQ
  exact ⟨f04,by rw [sendF,if_neg hc', if_pos hb2]⟩
 simp only [decide_eq_false_iff_not] at hb2
 have h45 : i.op = 45 := by
  simp only [orB,List.any_cons,List.any_nil,Bool.or_false,Bool.or_eq_true,Bool.or_eq_false_iff,decide_eq_true_eq,decide_eq_false_iff_not] at hop m
  omega
 have hm : channelsF f.slots i = chooseF f.slots i := by rw [channelsF,if_neg (by rw [m]; exact Bool.false_ne_true), if_neg hb2,if_pos h45]
 rw [hm] at hQ
 have htm : (((i.list.length : Int).tmod 3 = 0)) ↔ i.list.length % 3 = 0 := by
  rw [Int.tmod_eq_emod_of_nonneg (by omega)]; omega
 simp -implicitDefEqProofs (disch := first|decide|assumption|omega|(simp -implicitDefEqProofs only [AM.RN];first|done|omega)|fail) only [AM.RGB,↓AM.R0,AM.R1,AM.R2,Nat.reduceAdd,Nat.reduceLeDiff,Nat.reduceEqDiff,Int.reduceToNat,Nat.reduceLT,↓reduceIte,Int.reduceEq,Int.reduceLT,Int.reduceLE,e2,e3,e5,gI0,ll]
 refine AM.cI_bool (fun hb => ?_) (fun hb => ?_)
 ·simp -implicitDefEqProofs (disch := first|decide|assumption|omega|(simp -implicitDefEqProofs only [AM.RN];first|done|omega)|fail) only [↓AM.R0,AM.R1,AM.R2,Nat.reduceAdd,Nat.reduceLeDiff,Nat.reduceEqDiff,Int.reduceToNat,Nat.reduceLT,↓reduceIte,Int.reduceEq,Int.reduceLT,Int.reduceLE]
  simp only [Bool.or_eq_true,decide_eq_true_eq,Bool.not_eq_true', decide_eq_false_iff_not,htm] at hb
  subst hQ
  exact ⟨f0,by rw [chooseF,if_pos (by omega)]⟩
 simp only [Bool.or_eq_false_iff,decide_eq_false_iff_not,Bool.not_eq_false', decide_eq_true_eq,htm] at hb
 have hch : chooseF f.slots i = if threes f.slots i.list ≠ 0 then threes f.slots i.list else areF f.slots [(i.a,0)] := by rw [chooseF,if_neg (by omega)]
 simp -implicitDefEqProofs (disch := first|decide|assumption|omega|(simp -implicitDefEqProofs only [AM.RN];first|done|omega)|fail) only [↓AM.R0,AM.R1,AM.R2,Nat.reduceAdd,Nat.reduceLeDiff,Nat.reduceEqDiff,Int.reduceToNat,Nat.reduceLT,↓reduceIte,Int.reduceEq,Int.reduceLT,Int.reduceLE]
 refine AM.loopI_of (fun k e h' => ∃ x : Nat,k + x = i.list.length ∧ 3 * x ≤ i.list.length ∧ e.val 2 = .ptr h.n 0 0 ∧ e.val 3 = .ptr (h.n + 1) 0 0 ∧ e.val 5 = .ptr (h.n + 1 + 1) 0 0 ∧ e.val 12 = .int .i64 (3 * x : Nat) ∧ HFrame hA h' [] [] ∧ threes f.slots i.list = threes f.slots (i.list.drop (3 * x))) i.list.length ?_ ?_
 ·refine ⟨0,by omega,by omega, ?_, ?_, ?_, ?_,HFrame.refl (by simp), by simp⟩ <;> simp -implicitDefEqProofs (disch := first|decide|assumption|omega|(simp -implicitDefEqProofs only [AM.RN];first|done|omega)|fail) only [↓AM.R0,AM.R1,AM.R2,Nat.reduceAdd,Nat.reduceLeDiff,Nat.reduceEqDiff,Int.reduceToNat,Nat.reduceLT,↓reduceIte,Int.reduceEq,Int.reduceLT,Int.reduceLE,e2,e3,e5] <;> rfl
 clear e2 e3 e5 e17
 rintro k e h' ⟨x,hk,hx,e2,e3,e5,e12,fr,ht⟩
 have n1 : h.n + 3 ≤ h'.n := by have := fr.n; omega
 have gF1 : h'.get (h.n) = .cells 0 false [.int .i64 f.params,sv,rv,cv] := (fr.get _ (by omega) (by simp)).trans gF0
 have gI1 : h'.get (h.n + 1) = .cells 0 false [.int .i64 i.op, .int .i64 i.a, .int .i64 i.b, .int .i64 i.c, .int .u64 i.imm,lv] := (fr.get _ (by omega) (by simp)).trans gI0
 have gW1 : h'.get (h.n + 1 + 1) = .cells 0 false [.nils, .nils] := (fr.get _ (by omega) (by simp)).trans gW0
 have f01 := f0.trans fr
 have L' := L.keep f01
 simp -implicitDefEqProofs (disch := first|decide|assumption|omega|(simp -implicitDefEqProofs only [AM.RN];first|done|omega)|fail) only [↓AM.R0,AM.R1,AM.R2,Nat.reduceAdd,Nat.reduceLeDiff,Nat.reduceEqDiff,Int.reduceToNat,Nat.reduceLT,↓reduceIte,Int.reduceEq,Int.reduceLT,Int.reduceLE,e2,e3,e5,e12,gI1,ll]
 refine AM.cI_bool (fun hc => ?_) (fun hc => ?_)
 ·simp only [decide_eq_true_eq] at hc
  obtain ⟨a,ha⟩ : ∃ a,i.list[3 * x]? = some a := ⟨_,List.getElem?_eq_getElem (by omega)⟩
  obtain ⟨b,hb2⟩ : ∃ a,i.list[3 * x + 1]? = some a := ⟨_,List.getElem?_eq_getElem (by omega)⟩
  obtain ⟨d,hd⟩ : ∃ a,i.list[3 * x + 2]? = some a := ⟨_,List.getElem?_eq_getElem (by omega)⟩
  obtain ⟨j,g,off,vs,ro,x1,x2,x3,x5⟩ := (L'.rd ha).ix1 (enc := fun n => .int .i64 n) ha .i64
  obtain ⟨j2,g2,off2,vs2,ro2,y1,y2,y3,y5⟩ := (L'.rd hb2).ix1 (enc := fun n => .int .i64 n) hb2 .i64
  have hdr : i.list.drop (3 * x) = a :: b :: d :: i.list.drop (3 * (x + 1)) := by
   obtain ⟨q1,rfl⟩ := List.getElem?_eq_some_iff.1 ha
   obtain ⟨q2,rfl⟩ := List.getElem?_eq_some_iff.1 hb2
   obtain ⟨q3,rfl⟩ := List.getElem?_eq_some_iff.1 hd
   rw [List.drop_eq_getElem_cons q1,List.drop_eq_getElem_cons q2,List.drop_eq_getElem_cons q3]
   rfl
  rw [hdr] at ht
  have hw1 : IntKind.i64.wrap (((3 * x : Nat) : Int) + 1) = ((3 * x + 1 : Nat) : Int) := (wrap64 (by omega) (by omega)).trans (by omega)
  have hw2 : IntKind.i64.wrap (((3 * x : Nat) : Int) + 2) = ((3 * x + 2 : Nat) : Int) := (wrap64 (by omega) (by omega)).trans (by omega)
  have hw3 : IntKind.i64.wrap (((3 * x : Nat) : Int) + 3) = ((3 * (x + 1) : Nat) : Int) := (wrap64 (by omega) (by omega)).trans (by omega)
  simp -implicitDefEqProofs (disch := first|decide|assumption|omega|(simp -implicitDefEqProofs only [AM.RN];first|done|omega)|fail) only [AM.RGB,↓AM.R0,AM.R1,AM.R2,Nat.reduceAdd,Nat.reduceLeDiff,Nat.reduceEqDiff,Int.reduceToNat,Nat.reduceLT,↓reduceIte,Int.reduceEq,Int.reduceLT,Int.reduceLE,e2,e3,e5,e12,gI1,x1,x2,x5]
  refine AM.cI_bool (fun hq => ?_) (fun hq => ?_)
  ·simp -implicitDefEqProofs (disch := first|decide|assumption|omega|(simp -implicitDefEqProofs only [AM.RN];first|done|omega)|fail) only [↓AM.R0,AM.R1,AM.R2,Nat.reduceAdd,Nat.reduceLeDiff,Nat.reduceEqDiff,Int.reduceToNat,Nat.reduceLT,↓reduceIte,Int.reduceEq,Int.reduceLT,Int.reduceLE]
   simp only [Bool.or_eq_true,decide_eq_true_eq] at hq
   have h8 : oneC f.slots a b d = 8 := by rw [oneC,if_pos (by omega)]
   have h9 : threes f.slots i.list = 8 := by rw [ht,threes,h8]; rfl
   subst hQ
   exact ⟨f01,by rw [hch,h9]; rfl⟩
  simp only [Bool.or_eq_false_iff,decide_eq_false_iff_not] at hq
  have hone : oneC f.slots a b d = if (chanF f.slots b).2 ≠ 0 then (chanF f.slots b).2 else areF f.slots [(d, (chanF f.slots b).1)] := by
   rw [oneC,if_neg (by omega)]
  simp -implicitDefEqProofs (disch := first|decide|assumption|omega|(simp -implicitDefEqProofs only [AM.RN];first|done|omega)|fail) only [↓AM.R0,AM.R1,AM.R2,Nat.reduceAdd,Nat.reduceLeDiff,Nat.reduceEqDiff,Int.reduceToNat,Nat.reduceLT,↓reduceIte,Int.reduceEq,Int.reduceLT,Int.reduceLE,e2,e3,e5,e12,gI1,gF1,hw1,y1,y2,y5,c1,c2,c3]
  refine AM.trCall_of (rCarries (F0.keep f01) H b) ?_
  rintro r h2 ⟨f2,rfl⟩
  have n2 : h.n + 3 ≤ h2.n := by have := f2.n; omega
  have gF2 : h2.get (h.n) = .cells 0 false [.int .i64 f.params,sv,rv,cv] := (f2.get _ (by omega) (by simp)).trans gF1
  have gI2 : h2.get (h.n + 1) = .cells 0 false [.int .i64 i.op, .int .i64 i.a, .int .i64 i.b, .int .i64 i.c, .int .u64 i.imm,lv] := (f2.get _ (by omega) (by simp)).trans gI1
  have gW2 : h2.get (h.n + 1 + 1) = .cells 0 false [.nils, .nils] := (f2.get _ (by omega) (by simp)).trans gW1
  have f02 := f01.trans f2
  simp -implicitDefEqProofs (disch := first|decide|assumption|omega|(simp -implicitDefEqProofs only [AM.RN];first|done|omega)|fail) only [↓AM.R0,AM.R1,AM.R2,Nat.reduceAdd,Nat.reduceLeDiff,Nat.reduceEqDiff,Int.reduceToNat,Nat.reduceLT,↓reduceIte,Int.reduceEq,Int.reduceLT,Int.reduceLE,e2,e3,e5,e12,gI1,gF1,y1,y2,y5,c1,c2,c3,gI2,gF2]
  refine AM.cI_bool (fun he => ?_) (fun he => ?_)
  ·have he' : ¬ (chanF f.slots b).2 ≠ 0 := by simpa using he
   rw [if_neg he'] at hone
   simp -implicitDefEqProofs (disch := first|decide|assumption|omega|(simp -implicitDefEqProofs only [AM.RN];first|done|omega)|fail) only [↓AM.R0,AM.R1,AM.R2,Nat.reduceAdd,Nat.reduceLeDiff,Nat.reduceEqDiff,Int.reduceToNat,Nat.reduceLT,↓reduceIte,Int.reduceEq,Int.reduceLT,Int.reduceLE]
   have fV := (HFrame.refl (h := h2) (F := []) (by simp)).pushTmp (.cells 0 false [.nils, .nils])
   have gV : (h2.push (.cells 0 false [.nils, .nils])).get h2.n = .cells 0 false [.nils, .nils] := AHeap.get_push_same _ _
   have nV : (h2.push (.cells 0 false [.nils, .nils])).n = h2.n + 1 := by simp
   obtain ⟨hV,hhV⟩ : ∃ hV,hV = h2.push (.cells 0 false [.nils, .nils]) := ⟨_,rfl⟩
   rw [← hhV] at fV gV nV ⊢
   clear hhV
   have n3 : h.n + 3 ≤ hV.n := by have := fV.n; omega
   have gF3 : hV.get (h.n) = .cells 0 false [.int .i64 f.params,sv,rv,cv] := (fV.get _ (by omega) (by simp)).trans gF2
   have gI3 : hV.get (h.n + 1) = .cells 0 false [.int .i64 i.op, .int .i64 i.a, .int .i64 i.b, .int .i64 i.c, .int .u64 i.imm,lv] := (fV.get _ (by omega) (by simp)).trans gI2
   have gW3 : hV.get (h.n + 1 + 1) = .cells 0 false [.nils, .nils] := (fV.get _ (by omega) (by simp)).trans gW2
   have f03 := f02.trans fV
   have L3 := L.keep f03
   obtain ⟨j3,g3,off3,vs3,ro3,z1,z2,z3,z5⟩ := (L3.rd hd).ix1 (enc := fun n => .int .i64 n) hd .i64
   simp -implicitDefEqProofs (disch := first|decide|assumption|omega|(simp -implicitDefEqProofs only [AM.RN];first|done|omega)|fail) only [↓AM.R0,AM.R1,AM.R2,Nat.reduceAdd,Nat.reduceLeDiff,Nat.reduceEqDiff,Int.reduceToNat,Nat.reduceLT,↓reduceIte,Int.reduceEq,Int.reduceLT,Int.reduceLE,e2,e3,e5,e12,gI3,gF3,gV,hw2,z1,z2,z5,c1,c2,c3]
   refine AM.trCall_of (rAnd (a := []) (b := []) nilW (by simp) (by simp) d (chanF f.slots b).1) ?_
   rintro r hm3_0 ⟨fm3_0,wr,rfl,W0⟩
   replace W0 : WantR hm3_0 wr [d] [(chanF f.slots b).1] := W0
   obtain ⟨va0,ka0,rfl,Wa0,Wb0⟩ := W0
   have cwa0 := SlIn.cellv Wa0
   have cwb0 := SlIn.cellv Wb0
   have bwa0 := SlIn.beqv Wa0
   have bwb0 := SlIn.beqv Wb0
   have n4 : h.n + 3 ≤ hm3_0.n := by have := fm3_0.n; omega
   have gF4 : hm3_0.get (h.n) = .cells 0 false [.int .i64 f.params,sv,rv,cv] := (fm3_0.get _ (by omega) (by simp)).trans gF3
   have gI4 : hm3_0.get (h.n + 1) = .cells 0 false [.int .i64 i.op, .int .i64 i.a, .int .i64 i.b, .int .i64 i.c, .int .u64 i.imm,lv] := (fm3_0.get _ (by omega) (by simp)).trans gI3
   have gW4 : hm3_0.get (h.n + 1 + 1) = .cells 0 false [.nils, .nils] := (fm3_0.get _ (by omega) (by simp)).trans gW3
   have f04 := f03.trans fm3_0
   simp -implicitDefEqProofs (disch := first|decide|assumption|omega|(simp -implicitDefEqProofs only [AM.RN];first|done|omega)|fail) only [↓AM.R0,AM.R1,AM.R2,Nat.reduceAdd,Nat.reduceLeDiff,Nat.reduceEqDiff,Int.reduceToNat,Nat.reduceLT,↓reduceIte,Int.reduceEq,Int.reduceLT,Int.reduceLE,gF0,gI0,gW0,gF1,gI1,gW1,gF2,gI2,gW2,gF3,gI3,gW3,gF4,gI4,gW4,cwa0,cwb0,bwa0,bwb0,b1,b2,b3,bl,bi,bp,bs,AM.sameO_some,cl,c1,c2,c3,e2,e3,e5,e12,gV,hw2,z1,z2,z5]
   refine AM.trCall_of (rMet (F0.keep f04) (l := [(d, (chanF f.slots b).1)]) ⟨va0,ka0,rfl,Wa0,Wb0⟩ (by simp)) ?_
   rintro r hm4_9 ⟨fm4_9,rfl⟩
   have n5 : h.n + 3 ≤ hm4_9.n := by have := fm4_9.n; omega
   have gF5 : hm4_9.get (h.n) = .cells 0 false [.int .i64 f.params,sv,rv,cv] := (fm4_9.get _ (by omega) (by simp)).trans gF4
   have gI5 : hm4_9.get (h.n + 1) = .cells 0 false [.int .i64 i.op, .int .i64 i.a, .int .i64 i.b, .int .i64 i.c, .int .u64 i.imm,lv] := (fm4_9.get _ (by omega) (by simp)).trans gI4
   have gW5 : hm4_9.get (h.n + 1 + 1) = .cells 0 false [.nils, .nils] := (fm4_9.get _ (by omega) (by simp)).trans gW4
   have f05 := f04.trans fm4_9
   simp -implicitDefEqProofs (disch := first|decide|assumption|omega|(simp -implicitDefEqProofs only [AM.RN];first|done|omega)|fail) only [↓AM.R0,AM.R1,AM.R2,Nat.reduceAdd,Nat.reduceLeDiff,Nat.reduceEqDiff,Int.reduceToNat,Nat.reduceLT,↓reduceIte,Int.reduceEq,Int.reduceLT,Int.reduceLE,gF0,gI0,gW0,gF1,gI1,gW1,gF2,gI2,gW2,gF3,gI3,gW3,gF4,gI4,gW4,gF5,gI5,gW5,cwa0,cwb0,bwa0,bwb0,b1,b2,b3,bl,bi,bp,bs,AM.sameO_some,cl,c1,c2,c3,e2,e3,e5,e12,gV,hw2,z1,z2,z5]
   refine AM.cI_bool (fun hf => ?_) (fun hf => ?_)
   ·have hf' : areF f.slots [(d, (chanF f.slots b).1)] ≠ 0 := by simpa using hf
    simp -implicitDefEqProofs (disch := first|decide|assumption|omega|(simp -implicitDefEqProofs only [AM.RN];first|done|omega)|fail) only [↓AM.R0,AM.R1,AM.R2,Nat.reduceAdd,Nat.reduceLeDiff,Nat.reduceEqDiff,Int.reduceToNat,Nat.reduceLT,↓reduceIte,Int.reduceEq,Int.reduceLT,Int.reduceLE]
    have h9 : threes f.slots i.list = areF f.slots [(d, (chanF f.slots b).1)] := by rw [ht,threes,hone,if_pos hf']
    subst hQ
    exact ⟨f05,by rw [hch,h9,if_pos hf']⟩
   ·have hf' : ¬ areF f.slots [(d, (chanF f.slots b).1)] ≠ 0 := by simpa using hf
    simp -implicitDefEqProofs (disch := first|decide|assumption|omega|(simp -implicitDefEqProofs only [AM.RN];first|done|omega)|fail) only [↓AM.R0,AM.R1,AM.R2,Nat.reduceAdd,Nat.reduceLeDiff,Nat.reduceEqDiff,Int.reduceToNat,Nat.reduceLT,↓reduceIte,Int.reduceEq,Int.reduceLT,Int.reduceLE,e2,e3,e5,e12,hw3]
    rw [threes,hone,if_neg hf'] at ht
    exact ⟨i.list.length - (x + 1), by omega,x + 1,by omega,by omega,rfl, (((fr.trans f2).trans fV).trans fm3_0).trans fm4_9,ht⟩
  ·have he' : (chanF f.slots b).2 ≠ 0 := by simpa using he
   rw [if_pos he'] at hone
   have h9 : threes f.slots i.list = (chanF f.slots b).2 := by rw [ht,threes,hone,if_pos he']
   simp -implicitDefEqProofs (disch := first|decide|assumption|omega|(simp -implicitDefEqProofs only [AM.RN];first|done|omega)|fail) only [↓AM.R0,AM.R1,AM.R2,Nat.reduceAdd,Nat.reduceLeDiff,Nat.reduceEqDiff,Int.reduceToNat,Nat.reduceLT,↓reduceIte,Int.reduceEq,Int.reduceLT,Int.reduceLE]
   refine AM.cI_bool (fun hf => ?_) (fun hf => ?_)
   ·simp -implicitDefEqProofs (disch := first|decide|assumption|omega|(simp -implicitDefEqProofs only [AM.RN];first|done|omega)|fail) only [↓AM.R0,AM.R1,AM.R2,Nat.reduceAdd,Nat.reduceLeDiff,Nat.reduceEqDiff,Int.reduceToNat,Nat.reduceLT,↓reduceIte,Int.reduceEq,Int.reduceLT,Int.reduceLE]
    subst hQ
    exact ⟨f02,by rw [hch,h9,if_pos he']⟩
   ·exact absurd hf (by simpa using he')
 ·simp only [decide_eq_false_iff_not] at hc
  have h9 : threes f.slots i.list = 0 := by rw [ht,List.drop_of_length_le (by omega)]; rfl
  simp -implicitDefEqProofs (disch := first|decide|assumption|omega|(simp -implicitDefEqProofs only [AM.RN];first|done|omega)|fail) only [↓AM.R0,AM.R1,AM.R2,Nat.reduceAdd,Nat.reduceLeDiff,Nat.reduceEqDiff,Int.reduceToNat,Nat.reduceLT,↓reduceIte,Int.reduceEq,Int.reduceLT,Int.reduceLE,e2,e3,e5,gI1,gF1,gW1,c1,c2,c3]
  refine AM.trCall_of (rAnd (a := []) (b := []) nilW (by simp) (by simp) i.a 0) ?_
  rintro r hm1_0 ⟨fm1_0,wr,rfl,W0⟩
  replace W0 : WantR hm1_0 wr [i.a] [0] := W0
  obtain ⟨va0,ka0,rfl,Wa0,Wb0⟩ := W0
  have cwa0 := SlIn.cellv Wa0
  have cwb0 := SlIn.cellv Wb0
  have bwa0 := SlIn.beqv Wa0
  have bwb0 := SlIn.beqv Wb0
  have n2 : h.n + 3 ≤ hm1_0.n := by have := fm1_0.n; omega
  have gF2 : hm1_0.get (h.n) = .cells 0 false [.int .i64 f.params,sv,rv,cv] := (fm1_0.get _ (by omega) (by simp)).trans gF1
  have gI2 : hm1_0.get (h.n + 1) = .cells 0 false [.int .i64 i.op, .int .i64 i.a, .int .i64 i.b, .int .i64 i.c, .int .u64 i.imm,lv] := (fm1_0.get _ (by omega) (by simp)).trans gI1
  have gW2 : hm1_0.get (h.n + 1 + 1) = .cells 0 false [.nils, .nils] := (fm1_0.get _ (by omega) (by simp)).trans gW1
  have f02 := f01.trans fm1_0
  simp -implicitDefEqProofs (disch := first|decide|assumption|omega|(simp -implicitDefEqProofs only [AM.RN];first|done|omega)|fail) only [↓AM.R0,AM.R1,AM.R2,Nat.reduceAdd,Nat.reduceLeDiff,Nat.reduceEqDiff,Int.reduceToNat,Nat.reduceLT,↓reduceIte,Int.reduceEq,Int.reduceLT,Int.reduceLE,gF1,gI1,gW1,gF2,gI2,gW2,cwa0,cwb0,bwa0,bwb0,b1,b2,b3,bl,bi,bp,bs,AM.sameO_some,cl,c1,c2,c3,e2,e3,e5]
  refine AM.trCall_of (rMet (F0.keep f02) (l := [(i.a,0)]) ⟨va0,ka0,rfl,Wa0,Wb0⟩ (by simp)) ?_
  rintro r hm2_9 ⟨fm2_9,rfl⟩
  have n3 : h.n + 3 ≤ hm2_9.n := by have := fm2_9.n; omega
  have gF3 : hm2_9.get (h.n) = .cells 0 false [.int .i64 f.params,sv,rv,cv] := (fm2_9.get _ (by omega) (by simp)).trans gF2
  have gI3 : hm2_9.get (h.n + 1) = .cells 0 false [.int .i64 i.op, .int .i64 i.a, .int .i64 i.b, .int .i64 i.c, .int .u64 i.imm,lv] := (fm2_9.get _ (by omega) (by simp)).trans gI2
  have gW3 : hm2_9.get (h.n + 1 + 1) = .cells 0 false [.nils, .nils] := (fm2_9.get _ (by omega) (by simp)).trans gW2
  have f03 := f02.trans fm2_9
  simp -implicitDefEqProofs (disch := first|decide|assumption|omega|(simp -implicitDefEqProofs only [AM.RN];first|done|omega)|fail) only [↓AM.R0,AM.R1,AM.R2,Nat.reduceAdd,Nat.reduceLeDiff,Nat.reduceEqDiff,Int.reduceToNat,Nat.reduceLT,↓reduceIte,Int.reduceEq,Int.reduceLT,Int.reduceLE,gF1,gI1,gW1,gF2,gI2,gW2,gF3,gI3,gW3,cwa0,cwb0,bwa0,bwb0,b1,b2,b3,bl,bi,bp,bs,AM.sameO_some,cl,c1,c2,c3,e2,e3,e5]
  subst hQ
  exact ⟨f03,by rw [hch,h9,if_neg (by simp)]⟩
end Go.Proofs.Ytofcnjglnnoimaa.Vf
namespace Go.Proofs.Ytofcnjglnnoimaa.Vf
open Go Go.AM Go.Proofs.Ytofcnjglnnoimaa.AmGW
attribute [local irreducible] AM.wp AM.wpIs AM.wpTr AM.opI AM.gI AM.cI AM.trI AM.callI AM.fnI AM.trG AM.trOp AM.trCall AM.seqC AM.loopI
set_option maxRecDepth 100000
set_option linter.unusedVariables false
set_option linter.unusedSimpArgs false
theorem SlIn.notInt {h : AHeap} {v : AVal} {l : List Int} (s : SlIn h 1 encK v l) (k : IntKind) (n : Int) : v ≠ .int k n := by
 rcases s with (⟨rfl,_⟩ | ⟨id,g,off,vs,ro,rfl,_⟩) | ⟨_,id,off,rfl,_⟩ <;> exact fun e => by cases e
theorem SlIn.putW {h : AHeap} {v : AVal} {l : List Int} (s : SlIn h 1 encK v l) (hl : l ≠ []) {w : Nat} {x y : AVal} (g : h.get w = .cells 0 false [x,y]) (hx : ∀ n,x ≠ .int .i64 n) (hy : ∀ n,y ≠ .int .i64 n) (o : AObj) : SlIn (h.set w o) 1 encK v l := by
 obtain ⟨a,r,rfl⟩ := List.exists_cons_of_ne_nil hl
 rcases s with s | ⟨e,_⟩
 ·refine .inl ?_
  obtain ⟨id,g', off,vs,ro,_,e1,_,e5⟩ := SlRd.atK (x := 0) (a := a) s rfl
  rcases s with ⟨_,e⟩ | ⟨id,g', off,vs,ro,rfl,a1,a2,a3,a4⟩
  ·cases e
  ·have hne : id ≠ w := by
    rintro rfl
    rw [a1] at g
    cases g
    have := congrArg (fun l => l[0]?) a4
    simp only [List.flatMap_cons,List.singleton_append,List.getElem?_cons_zero,List.getElem?_take,List.length_cons,Nat.zero_lt_succ,if_true,List.getElem?_drop,Nat.add_zero] at this
    match off,this with
    | 0,this => exact absurd (Option.some.inj this) (hx a)
    | 1,this => exact absurd (Option.some.inj this) (hy a)
    | _ + 2,this => cases this
   exact .inr ⟨id,g', off,vs,ro,rfl, (AHeap.get_set_ne _ _ hne).trans a1,a2,a3,a4⟩
 ·cases e
theorem wordF_false (p : PProg) (sl : List Int) (i : PIns) (ob slot : Int) : wordF p sl i ob slot false = fieldF p sl ob i.c slot := by
 rw [wordF,fieldF,if_neg (by simp : ¬ (false = true))]
set_option maxHeartbeats 8000000 in
theorem rMemory {h : AHeap} {p : PProg} {f : PFunc} {i : PIns} {prow frow row : List AVal} (P : ProgR h p prow) (F : FuncR h f frow) (R : InsR h i row) (H : Hs p f.slots) (T : Ht p) (hT : p.types.length ≤ 32) (hop : orB i.op [26,27,28,29,30,31,32,33,34] = true) :
  CallP AP 93 [.agg prow, .agg frow, .agg row] h fun r h' => HFrame h h' [] [] ∧ r = .int .i64 (memF p f.slots i) := by
 have F0 := F
 have P0 := P
 obtain ⟨sv,rv,cv,rfl,s4,s5,s6⟩ := F
 obtain ⟨tv,gv,fv,rfl,RT,RG,RF⟩ := P
 obtain ⟨hi,lv,rfl,L⟩ := R
 refine callP (rfl : Tr.get AP 93 = some A93) ?_
 generalize hQ : (fun (r : AVal) (h' : AHeap) => _) = Q
 have cl := SlIn.cellv L
 have bl := SlIn.beqv L
 have c1 := SlIn.cellv s4
 have c2 := SlIn.cellv s5
 have c3 := SlR.cellv s6
 have c4 := SlR.cellv RT
 have c5 := SlIn.cellv RG
 have c6 := SlR.cellv RF
 have b1 := SlIn.beqv s4
 have b2 := SlIn.beqv s5
 have b3 := SlR.beqv s6
 have b4 := SlR.beqv RT
 have b5 := SlIn.beqv RG
 have b6 := SlR.beqv RF
 have l1 := RT.len
 have l2 := RG.len
 simp only [orB,List.any_cons,List.any_nil,Bool.or_false,Bool.or_eq_true,decide_eq_true_eq] at hop
 have bi : ∀ (k : IntKind) (n : Int), (AVal.int k n).beq (.int k n) = true := fun k n => by simp [AVal.beq]
 have bp : ∀ a b c, (AVal.ptr a b c).beq (.ptr a b c) = true := fun a b c => by simp [AVal.beq]
 have bs : ∀ a b c d e, (AVal.sl a b c d e).beq (AVal.sl a b c d e) = true := AM.beq_sl
 have f0 := (((((HFrame.refl (h := h) (F := []) (by simp)).pushTmp (.cells 0 false [tv,gv,fv])).pushTmp (.cells 0 false [.int .i64 f.params,sv,rv,cv])).pushTmp (.cells 0 false [.int .i64 i.op, .int .i64 i.a, .int .i64 i.b, .int .i64 i.c, .int .u64 i.imm,lv])).pushTmp (.cells 0 false [.nils, .nils]))
 obtain ⟨hA,hhA⟩ : ∃ hA,hA = ((((h.push (.cells 0 false [tv,gv,fv])).push (.cells 0 false [.int .i64 f.params,sv,rv,cv])).push (.cells 0 false [.int .i64 i.op, .int .i64 i.a, .int .i64 i.b, .int .i64 i.c, .int .u64 i.imm,lv])).push (.cells 0 false [.nils, .nils])) := ⟨_,rfl⟩
 have gP0 : hA.get (h.n) = .cells 0 false [tv,gv,fv] := by rw [hhA]; simp -implicitDefEqProofs (disch := first|decide|assumption|omega|(simp -implicitDefEqProofs only [AM.RN];first|done|omega)|fail) only [↓AM.R0,AM.R1,AM.R2,Nat.reduceAdd,Nat.reduceLeDiff,Nat.reduceEqDiff,Int.reduceToNat,Nat.reduceLT,↓reduceIte,Int.reduceEq,Int.reduceLT,Int.reduceLE]
 have gF0 : hA.get (h.n + 1) = .cells 0 false [.int .i64 f.params,sv,rv,cv] := by rw [hhA]; simp -implicitDefEqProofs (disch := first|decide|assumption|omega|(simp -implicitDefEqProofs only [AM.RN];first|done|omega)|fail) only [↓AM.R0,AM.R1,AM.R2,Nat.reduceAdd,Nat.reduceLeDiff,Nat.reduceEqDiff,Int.reduceToNat,Nat.reduceLT,↓reduceIte,Int.reduceEq,Int.reduceLT,Int.reduceLE]
 have gI0 : hA.get (h.n + 1 + 1) = .cells 0 false [.int .i64 i.op, .int .i64 i.a, .int .i64 i.b, .int .i64 i.c, .int .u64 i.imm,lv] := by rw [hhA]; simp -implicitDefEqProofs (disch := first|decide|assumption|omega|(simp -implicitDefEqProofs only [AM.RN];first|done|omega)|fail) only [↓AM.R0,AM.R1,AM.R2,Nat.reduceAdd,Nat.reduceLeDiff,Nat.reduceEqDiff,Int.reduceToNat,Nat.reduceLT,↓reduceIte,Int.reduceEq,Int.reduceLT,Int.reduceLE]
 have gW0 : hA.get (h.n + 1 + 1 + 1) = .cells 0 false [.nils, .nils] := by rw [hhA]; simp -implicitDefEqProofs (disch := first|decide|assumption|omega|(simp -implicitDefEqProofs only [AM.RN];first|done|omega)|fail) only [↓AM.R0,AM.R1,AM.R2,Nat.reduceAdd,Nat.reduceLeDiff,Nat.reduceEqDiff,Int.reduceToNat,Nat.reduceLT,↓reduceIte,Int.reduceEq,Int.reduceLT,Int.reduceLE]
 have n0 : h.n + 4 ≤ hA.n := by rw [hhA]; simp
 simp -implicitDefEqProofs (disch := first|decide|assumption|omega|(simp -implicitDefEqProofs only [AM.RN];first|done|omega)|fail) only [↓AM.R0,AM.R1,AM.R2,Nat.reduceAdd,Nat.reduceLeDiff,Nat.reduceEqDiff,Int.reduceToNat,Nat.reduceLT,↓reduceIte,Int.reduceEq,Int.reduceLT,Int.reduceLE,cl,c1,c2,c3,c4,c5,c6]
 rw [← hhA] at f0 ⊢
 clear hhA
 refine cI_or (t := 16) (s := 15) (x := i.op) (by decide) [(18,27)] (by simp -implicitDefEqProofs (disch := first|decide|assumption|omega|(simp -implicitDefEqProofs only [AM.RN];first|done|omega)|fail) only [↓AM.R0,AM.R1,AM.R2,Nat.reduceAdd,Nat.reduceLeDiff,Nat.reduceEqDiff,Int.reduceToNat,Nat.reduceLT,↓reduceIte,Int.reduceEq,Int.reduceLT,Int.reduceLE,gP0,gF0,gI0,gW0]) (by simp -implicitDefEqProofs (disch := first|decide|assumption|omega|(simp -implicitDefEqProofs only [AM.RN];first|done|omega)|fail) only [↓AM.R0,AM.R1,AM.R2,Nat.reduceAdd,Nat.reduceLeDiff,Nat.reduceEqDiff,Int.reduceToNat,Nat.reduceLT,↓reduceIte,Int.reduceEq,Int.reduceLT,Int.reduceLE,gP0,gF0,gI0,gW0]) (by decide) ?_
 intro e' ht hk
 have e3' : Env.val e' 3 = .ptr h.n 0 0 := (hk 3 (by decide) (by decide)).trans (by simp -implicitDefEqProofs (disch := first|decide|assumption|omega|(simp -implicitDefEqProofs only [AM.RN];first|done|omega)|fail) only [↓AM.R0,AM.R1,AM.R2,Nat.reduceAdd,Nat.reduceLeDiff,Nat.reduceEqDiff,Int.reduceToNat,Nat.reduceLT,↓reduceIte,Int.reduceEq,Int.reduceLT,Int.reduceLE,gP0,gF0,gI0,gW0])
 have e4' : Env.val e' 4 = .ptr (h.n + 1) 0 0 := (hk 4 (by decide) (by decide)).trans (by simp -implicitDefEqProofs (disch := first|decide|assumption|omega|(simp -implicitDefEqProofs only [AM.RN];first|done|omega)|fail) only [↓AM.R0,AM.R1,AM.R2,Nat.reduceAdd,Nat.reduceLeDiff,Nat.reduceEqDiff,Int.reduceToNat,Nat.reduceLT,↓reduceIte,Int.reduceEq,Int.reduceLT,Int.reduceLE,gP0,gF0,gI0,gW0])
 have e5' : Env.val e' 5 = .ptr (h.n + 1 + 1) 0 0 := (hk 5 (by decide) (by decide)).trans (by simp -implicitDefEqProofs (disch := first|decide|assumption|omega|(simp -implicitDefEqProofs only [AM.RN];first|done|omega)|fail) only [↓AM.R0,AM.R1,AM.R2,Nat.reduceAdd,Nat.reduceLeDiff,Nat.reduceEqDiff,Int.reduceToNat,Nat.reduceLT,↓reduceIte,Int.reduceEq,Int.reduceLT,Int.reduceLE,gP0,gF0,gI0,gW0])
 have e7' : Env.val e' 7 = .ptr (h.n + 1 + 1 + 1) 0 0 := (hk 7 (by decide) (by decide)).trans (by simp -implicitDefEqProofs (disch := first|decide|assumption|omega|(simp -implicitDefEqProofs only [AM.RN];first|done|omega)|fail) only [↓AM.R0,AM.R1,AM.R2,Nat.reduceAdd,Nat.reduceLeDiff,Nat.reduceEqDiff,Int.reduceToNat,Nat.reduceLT,↓reduceIte,Int.reduceEq,Int.reduceLT,Int.reduceLE,gP0,gF0,gI0,gW0])
 have e15' : Env.val e' 15 = .int .i64 i.op := (hk 15 (by decide) (by decide)).trans (by simp -implicitDefEqProofs (disch := first|decide|assumption|omega|(simp -implicitDefEqProofs only [AM.RN];first|done|omega)|fail) only [↓AM.R0,AM.R1,AM.R2,Nat.reduceAdd,Nat.reduceLeDiff,Nat.reduceEqDiff,Int.reduceToNat,Nat.reduceLT,↓reduceIte,Int.reduceEq,Int.reduceLT,Int.reduceLE,gP0,gF0,gI0,gW0])
 clear hk
 try clear e3
 have e3 := e3'
 clear e3'
 try clear e4
 have e4 := e4'
 clear e4'
 try clear e5
 have e5 := e5'
 clear e5'
 try clear e7
 have e7 := e7'
 clear e7'
 try clear e15
 have e15 := e15'
 clear e15'
 simp -implicitDefEqProofs (disch := first|decide|assumption|omega|(simp -implicitDefEqProofs only [AM.RN];first|done|omega)|fail) only [↓AM.R0,AM.R1,AM.R2,Nat.reduceAdd,Nat.reduceLeDiff,Nat.reduceEqDiff,Int.reduceToNat,Nat.reduceLT,↓reduceIte,Int.reduceEq,Int.reduceLT,Int.reduceLE,ht]
 refine AM.cI_bool (fun hb => ?_) (fun hb => ?_)
 ·have m1 : orB i.op [26,27] = true := hb
  clear hb ht
  have hm : memF p f.slots i = newF p f.slots i := by rw [memF,if_pos m1]
  rw [hm] at hQ
  clear hm
  have o1 : i.op = 26 ∨ i.op = 27 := by simpa [orB] using m1
  by_cases hin : 0 ≤ i.b ∧ i.b < p.types.length
  ·have d1 : decide ((p.types.length : Int) ≤ i.b) = false := decide_eq_false (by omega)
   have d2 : decide (i.b < 0) = false := decide_eq_false (by omega)
   obtain ⟨t,ht⟩ : ∃ t,p.types[i.b.toNat]? = some t := ⟨_,List.getElem?_eq_getElem (by omega)⟩
   obtain ⟨j,g2,off,vs,ro,row,x1,x2,x3,x4,x5,x6,fl,rfl,xl⟩ := (RT.mono (h' := hA) (R' := TypeR h) (fun _ _ q => q) f0.n (fun j hj => f0.get j hj (by simp))).ix ht .i64
   rw [show ((i.b.toNat : Nat) : Int) = i.b by omega] at x1
   obtain ⟨p1,p2⟩ := two_of x5
   have hw : IntKind.i64.wrap (16 + i.b) = 16 + i.b := wrap64 (by omega) (by omega)
   have hnew : newF p f.slots i = if t.1 ≠ decide (i.op = 27) then 14 else if i.op = 27 then areF f.slots [(i.a,16 + i.b), (i.c,0)] else areF f.slots [(i.a,16 + i.b)] := by
    rw [newF,ht]
    have e1 : ¬ i.b < 0 := by omega
    have e2 : ¬ (p.types.length : Int) ≤ i.b := by omega
    simp only [e1,e2,false_or,Option.map_some,ne_eq,Option.some.injEq]
   have d27 : decide (i.op = 27) = !decide (i.op = 26) := by rcases o1 with e | e <;> rw [e] <;> rfl
   simp -implicitDefEqProofs (disch := first|decide|assumption|omega|(simp -implicitDefEqProofs only [AM.RN];first|done|omega)|fail) only [↓AM.R0,AM.R1,AM.R2,Nat.reduceAdd,Nat.reduceLeDiff,Nat.reduceEqDiff,Int.reduceToNat,Nat.reduceLT,↓reduceIte,Int.reduceEq,Int.reduceLT,Int.reduceLE,e3,e4,e5,e7,gP0,gI0,l1,d1,d2,x1,x2,p1,p2]
   refine AM.cI_bool (fun hc => ?_) (fun hc => ?_)
   ·simp -implicitDefEqProofs (disch := first|decide|assumption|omega|(simp -implicitDefEqProofs only [AM.RN];first|done|omega)|fail) only [↓AM.R0,AM.R1,AM.R2,Nat.reduceAdd,Nat.reduceLeDiff,Nat.reduceEqDiff,Int.reduceToNat,Nat.reduceLT,↓reduceIte,Int.reduceEq,Int.reduceLT,Int.reduceLE]
    have hc' : t.1 ≠ decide (i.op = 27) := by rw [d27]; simpa using hc
    subst hQ
    exact ⟨f0,by rw [hnew,if_pos hc']⟩
   ·have hc' : ¬ t.1 ≠ decide (i.op = 27) := by rw [d27]; simpa using hc
    rw [if_neg hc'] at hnew
    simp -implicitDefEqProofs (disch := first|decide|assumption|omega|(simp -implicitDefEqProofs only [AM.RN];first|done|omega)|fail) only [↓AM.R0,AM.R1,AM.R2,Nat.reduceAdd,Nat.reduceLeDiff,Nat.reduceEqDiff,Int.reduceToNat,Nat.reduceLT,↓reduceIte,Int.reduceEq,Int.reduceLT,Int.reduceLE,e3,e4,e5,e7,gP0,gI0,gW0,hw]
    refine AM.callI_of (rAnd (a := []) (b := []) nilW (by simp) (by simp) i.a (16 + i.b)) ?_
    rintro r h1 ⟨f1,wr,rfl,W0⟩
    replace W0 : WantR h1 wr [i.a] [16 + i.b] := W0
    obtain ⟨va0,ka0,rfl,Wa0,Wb0⟩ := W0
    have cwa0 := SlIn.cellv Wa0
    have cwb0 := SlIn.cellv Wb0
    have n1 : h.n + 4 ≤ h1.n := by have := f1.n; omega
    have gP1 : h1.get (h.n) = .cells 0 false [tv,gv,fv] := (f1.get _ (by omega) (by simp)).trans gP0
    have gF1 : h1.get (h.n + 1) = .cells 0 false [.int .i64 f.params,sv,rv,cv] := (f1.get _ (by omega) (by simp)).trans gF0
    have gI1 : h1.get (h.n + 1 + 1) = .cells 0 false [.int .i64 i.op, .int .i64 i.a, .int .i64 i.b, .int .i64 i.c, .int .u64 i.imm,lv] := (f1.get _ (by omega) (by simp)).trans gI0
    have gW1 : h1.get (h.n + 1 + 1 + 1) = .cells 0 false [.nils, .nils] := (f1.get _ (by omega) (by simp)).trans gW0
    have f01 := f0.trans f1
    simp -implicitDefEqProofs (disch := first|decide|assumption|omega|(simp -implicitDefEqProofs only [AM.RN];first|done|omega)|fail) only [↓AM.R0,AM.R1,AM.R2,Nat.reduceAdd,Nat.reduceLeDiff,Nat.reduceEqDiff,Int.reduceToNat,Nat.reduceLT,↓reduceIte,Int.reduceEq,Int.reduceLT,Int.reduceLE,e3,e4,e5,e7,gP1,gF1,gI1,gW1,cwa0,cwb0]
    have fS := f01.setTmp (i := h.n + 1 + 1 + 1) (by omega) (.cells 0 false [va0,ka0])
    have nS : (h1.set (h.n + 1 + 1 + 1) (.cells 0 false [va0,ka0])).n = h1.n := by simp
    obtain ⟨hS,hhS⟩ : ∃ hS,hS = h1.set (h.n + 1 + 1 + 1) (.cells 0 false [va0,ka0]) := ⟨_,rfl⟩
    have WS : WantR hS [va0,ka0] [i.a] [16 + i.b] := by
     rw [hhS]
     exact ⟨va0,ka0,rfl,SlIn.putW Wa0 (by simp) gW1 (by simp) (by simp) _,SlIn.putW Wb0 (by simp) gW1 (by simp) (by simp) _⟩
    have gPS : hS.get h.n = .cells 0 false [tv,gv,fv] := by rw [hhS]; exact (AHeap.get_set_ne _ _ (by omega)).trans gP1
    have gFS : hS.get (h.n + 1) = .cells 0 false [.int .i64 f.params,sv,rv,cv] := by rw [hhS]; exact (AHeap.get_set_ne _ _ (by omega)).trans gF1
    have gIS : hS.get (h.n + 1 + 1) = .cells 0 false [.int .i64 i.op, .int .i64 i.a, .int .i64 i.b, .int .i64 i.c, .int .u64 i.imm,lv] := by rw [hhS]; exact (AHeap.get_set_ne _ _ (by omega)).trans gI1
    have gWS : hS.get (h.n + 1 + 1 + 1) = .cells 0 false [va0,ka0] := by rw [hhS]; exact AHeap.get_set_same _ _ _
    rw [← hhS] at fS nS ⊢
    clear hhS
    refine AM.cI_bool (fun hd => ?_) (fun hd => ?_)
    ·simp only [decide_eq_true_eq] at hd
     rw [if_pos hd] at hnew
     simp -implicitDefEqProofs (disch := first|decide|assumption|omega|(simp -implicitDefEqProofs only [AM.RN];first|done|omega)|fail) only [↓AM.R0,AM.R1,AM.R2,Nat.reduceAdd,Nat.reduceLeDiff,Nat.reduceEqDiff,Int.reduceToNat,Nat.reduceLT,↓reduceIte,Int.reduceEq,Int.reduceLT,Int.reduceLE,e3,e4,e5,e7,gPS,gFS,gIS,gWS]
     refine AM.callI_of (rAnd WS (by simp) (by simp) i.c 0) ?_
     rintro r h2 ⟨f2,wr,rfl,W1⟩
     replace W1 : WantR h2 wr [i.a,i.c] [16 + i.b,0] := W1
     obtain ⟨va1,ka1,rfl,Wa1,Wb1⟩ := W1
     have cwa1 := SlIn.cellv Wa1
     have cwb1 := SlIn.cellv Wb1
     have n2 := f2.n
     have gF2 := (f2.get _ (by omega) (by simp)).trans gFS
     have gW2 := (f2.get _ (by omega) (by simp)).trans gWS
     have f02 := fS.trans f2
     simp -implicitDefEqProofs (disch := first|decide|assumption|omega|(simp -implicitDefEqProofs only [AM.RN];first|done|omega)|fail) only [↓AM.R0,AM.R1,AM.R2,Nat.reduceAdd,Nat.reduceLeDiff,Nat.reduceEqDiff,Int.reduceToNat,Nat.reduceLT,↓reduceIte,Int.reduceEq,Int.reduceLT,Int.reduceLE,e3,e4,e5,e7,gF2,gW2,cwa1,cwb1,c1,c2,c3]
     have fY := f02.setTmp (i := h.n + 1 + 1 + 1) (by omega) (.cells 0 false [va1,ka1])
     have nY : (h2.set (h.n + 1 + 1 + 1) (.cells 0 false [va1,ka1])).n = h2.n := by simp
     obtain ⟨hY,hhY⟩ : ∃ hY,hY = h2.set (h.n + 1 + 1 + 1) (.cells 0 false [va1,ka1]) := ⟨_,rfl⟩
     have WY : WantR hY [va1,ka1] [i.a,i.c] [16 + i.b,0] := by
      rw [hhY]
      exact ⟨va1,ka1,rfl,SlIn.putW Wa1 (by simp) gW2 (SlIn.notInt Wa0 _) (SlIn.notInt Wb0 _) _,SlIn.putW Wb1 (by simp) gW2 (SlIn.notInt Wa0 _) (SlIn.notInt Wb0 _) _⟩
     have gFY : hY.get (h.n + 1) = .cells 0 false [.int .i64 f.params,sv,rv,cv] := by rw [hhY]; exact (AHeap.get_set_ne _ _ (by omega)).trans gF2
     have gWY : hY.get (h.n + 1 + 1 + 1) = .cells 0 false [va1,ka1] := by rw [hhY]; exact AHeap.get_set_same _ _ _
     rw [← hhY] at fY nY ⊢
     clear hhY
     refine AM.callI_of (rMet (F0.keep fY) (l := [(i.a,16 + i.b), (i.c,0)]) WY (by simp)) ?_
     rintro r h3 ⟨f3,rfl⟩
     simp -implicitDefEqProofs (disch := first|decide|assumption|omega|(simp -implicitDefEqProofs only [AM.RN];first|done|omega)|fail) only [↓AM.R0,AM.R1,AM.R2,Nat.reduceAdd,Nat.reduceLeDiff,Nat.reduceEqDiff,Int.reduceToNat,Nat.reduceLT,↓reduceIte,Int.reduceEq,Int.reduceLT,Int.reduceLE]
     subst hQ
     exact ⟨fY.trans f3,by rw [hnew]⟩
    ·simp only [decide_eq_false_iff_not] at hd
     rw [if_neg hd] at hnew
     simp -implicitDefEqProofs (disch := first|decide|assumption|omega|(simp -implicitDefEqProofs only [AM.RN];first|done|omega)|fail) only [↓AM.R0,AM.R1,AM.R2,Nat.reduceAdd,Nat.reduceLeDiff,Nat.reduceEqDiff,Int.reduceToNat,Nat.reduceLT,↓reduceIte,Int.reduceEq,Int.reduceLT,Int.reduceLE,e3,e4,e5,e7,gPS,gFS,gIS,gWS,c1,c2,c3,cwa0,cwb0]
     refine AM.callI_of (rMet (F0.keep fS) (l := [(i.a,16 + i.b)]) WS (by simp)) ?_
     rintro r h3 ⟨f3,rfl⟩
     simp -implicitDefEqProofs (disch := first|decide|assumption|omega|(simp -implicitDefEqProofs only [AM.RN];first|done|omega)|fail) only [↓AM.R0,AM.R1,AM.R2,Nat.reduceAdd,Nat.reduceLeDiff,Nat.reduceEqDiff,Int.reduceToNat,Nat.reduceLT,↓reduceIte,Int.reduceEq,Int.reduceLT,Int.reduceLE]
     subst hQ
     exact ⟨fS.trans f3,by rw [hnew]⟩
  ·have hg : newF p f.slots i = 14 := by rw [newF,if_pos (by omega)]
   rcases Int.lt_or_le i.b 0 with hlt | hle
   ·have d2 : decide (i.b < 0) = true := decide_eq_true (by omega)
    simp -implicitDefEqProofs (disch := first|decide|assumption|omega|(simp -implicitDefEqProofs only [AM.RN];first|done|omega)|fail) only [↓AM.R0,AM.R1,AM.R2,Nat.reduceAdd,Nat.reduceLeDiff,Nat.reduceEqDiff,Int.reduceToNat,Nat.reduceLT,↓reduceIte,Int.reduceEq,Int.reduceLT,Int.reduceLE,e3,e4,e5,e7,gP0,gI0,l1,d2]
    subst hQ
    exact ⟨f0,by rw [hg]⟩
   ·have d1 : decide ((p.types.length : Int) ≤ i.b) = true := decide_eq_true (by omega)
    have d2 : decide (i.b < 0) = false := decide_eq_false (by omega)
    simp -implicitDefEqProofs (disch := first|decide|assumption|omega|(simp -implicitDefEqProofs only [AM.RN];first|done|omega)|fail) only [↓AM.R0,AM.R1,AM.R2,Nat.reduceAdd,Nat.reduceLeDiff,Nat.reduceEqDiff,Int.reduceToNat,Nat.reduceLT,↓reduceIte,Int.reduceEq,Int.reduceLT,Int.reduceLE,e3,e4,e5,e7,gP0,gI0,l1,d1,d2]
    subst hQ
    exact ⟨f0,by rw [hg]⟩
 have m1 : orB i.op [26,27] = false := hb
 clear hb ht
 simp -implicitDefEqProofs (disch := first|decide|assumption|omega|(simp -implicitDefEqProofs only [AM.RN];first|done|omega)|fail) only [↓AM.R0,AM.R1,AM.R2,Nat.reduceAdd,Nat.reduceLeDiff,Nat.reduceEqDiff,Int.reduceToNat,Nat.reduceLT,↓reduceIte,Int.reduceEq,Int.reduceLT,Int.reduceLE,e15]
 refine AM.cI_bool (fun hb => ?_) (fun hb => ?_)
 ·have hb : i.op = 28 := by simpa using hb
  have hm : memF p f.slots i = lenF p f.slots i := by unfold memF; rw [hb]; rfl
  rw [hm] at hQ
  simp -implicitDefEqProofs (disch := first|decide|assumption|omega|(simp -implicitDefEqProofs only [AM.RN];first|done|omega)|fail) only [↓AM.R0,AM.R1,AM.R2,Nat.reduceAdd,Nat.reduceLeDiff,Nat.reduceEqDiff,Int.reduceToNat,Nat.reduceLT,↓reduceIte,Int.reduceEq,Int.reduceLT,Int.reduceLE,e3,e4,e5,e7,gP0,gF0,gI0,c1,c2,c3,c4,c5,c6]
  refine AM.callI_of (rTypeOf (P0.keep f0) (F0.keep f0) H i.b true) ?_
  rintro r h1 ⟨f1,row,rfl,fl,rfl,xl⟩
  have cf := SlIn.cellv xl
  have n1 : h.n + 4 ≤ h1.n := by have := f1.n; omega
  have gP1 : h1.get (h.n) = .cells 0 false [tv,gv,fv] := (f1.get _ (by omega) (by simp)).trans gP0
  have gF1 : h1.get (h.n + 1) = .cells 0 false [.int .i64 f.params,sv,rv,cv] := (f1.get _ (by omega) (by simp)).trans gF0
  have gI1 : h1.get (h.n + 1 + 1) = .cells 0 false [.int .i64 i.op, .int .i64 i.a, .int .i64 i.b, .int .i64 i.c, .int .u64 i.imm,lv] := (f1.get _ (by omega) (by simp)).trans gI0
  have gW1 : h1.get (h.n + 1 + 1 + 1) = .cells 0 false [.nils, .nils] := (f1.get _ (by omega) (by simp)).trans gW0
  have f01 := f0.trans f1
  simp -implicitDefEqProofs (disch := first|decide|assumption|omega|(simp -implicitDefEqProofs only [AM.RN];first|done|omega)|fail) only [↓AM.R0,AM.R1,AM.R2,Nat.reduceAdd,Nat.reduceLeDiff,Nat.reduceEqDiff,Int.reduceToNat,Nat.reduceLT,↓reduceIte,Int.reduceEq,Int.reduceLT,Int.reduceLE,cf]
  have fX := ((HFrame.refl (h := h1) (F := []) (by simp)).pushTmp (.cells 0 false [.bool false, .nils])).setTmp (i := h1.n) (Nat.le_refl _) (.cells 0 false [.bool (objF p f.slots i.b true).2.1,fl])
  obtain ⟨hB,hhB⟩ : ∃ hB,hB = (h1.push (.cells 0 false [.bool false, .nils])).set h1.n (.cells 0 false [.bool (objF p f.slots i.b true).2.1,fl]) := ⟨_,rfl⟩
  have gT : hB.get h1.n = .cells 0 false [.bool (objF p f.slots i.b true).2.1,fl] := by rw [hhB]; exact AHeap.get_set_same _ _ _
  have nB : hB.n = h1.n + 1 := by rw [hhB]; rfl
  rw [← hhB] at fX ⊢
  clear hhB
  have n2 : h.n + 4 ≤ hB.n := by have := fX.n; omega
  have gP2 : hB.get (h.n) = .cells 0 false [tv,gv,fv] := (fX.get _ (by omega) (by simp)).trans gP1
  have gF2 : hB.get (h.n + 1) = .cells 0 false [.int .i64 f.params,sv,rv,cv] := (fX.get _ (by omega) (by simp)).trans gF1
  have gI2 : hB.get (h.n + 1 + 1) = .cells 0 false [.int .i64 i.op, .int .i64 i.a, .int .i64 i.b, .int .i64 i.c, .int .u64 i.imm,lv] := (fX.get _ (by omega) (by simp)).trans gI1
  have gW2 : hB.get (h.n + 1 + 1 + 1) = .cells 0 false [.nils, .nils] := (fX.get _ (by omega) (by simp)).trans gW1
  have f02 := f01.trans fX
  refine AM.cI_bool (fun hc => ?_) (fun hc => ?_)
  ·have hc' : (objF p f.slots i.b true).1 ≠ 0 := by simpa using hc
   simp -implicitDefEqProofs (disch := first|decide|assumption|omega|(simp -implicitDefEqProofs only [AM.RN];first|done|omega)|fail) only [↓AM.R0,AM.R1,AM.R2,Nat.reduceAdd,Nat.reduceLeDiff,Nat.reduceEqDiff,Int.reduceToNat,Nat.reduceLT,↓reduceIte,Int.reduceEq,Int.reduceLT,Int.reduceLE]
   subst hQ
   exact ⟨f02,by rw [lenF,if_pos hc']⟩
  have hc' : ¬ (objF p f.slots i.b true).1 ≠ 0 := by simpa using hc
  simp -implicitDefEqProofs (disch := first|decide|assumption|omega|(simp -implicitDefEqProofs only [AM.RN];first|done|omega)|fail) only [↓AM.R0,AM.R1,AM.R2,Nat.reduceAdd,Nat.reduceLeDiff,Nat.reduceEqDiff,Int.reduceToNat,Nat.reduceLT,↓reduceIte,Int.reduceEq,Int.reduceLT,Int.reduceLE,e3,e4,e5,e7,gP2,gF2,gI2,gW2,c1,c2,c3,c4,c5,c6]
  refine AM.trCall_of (rAnd (a := []) (b := []) nilW (by simp) (by simp) i.a 0) ?_
  rintro r hm2_0 ⟨fm2_0,wr,rfl,W0⟩
  replace W0 : WantR hm2_0 wr [i.a] [0] := W0
  obtain ⟨va0,ka0,rfl,Wa0,Wb0⟩ := W0
  have cwa0 := SlIn.cellv Wa0
  have cwb0 := SlIn.cellv Wb0
  have bwa0 := SlIn.beqv Wa0
  have bwb0 := SlIn.beqv Wb0
  have n3 : h.n + 4 ≤ hm2_0.n := by have := fm2_0.n; omega
  have gP3 : hm2_0.get (h.n) = .cells 0 false [tv,gv,fv] := (fm2_0.get _ (by omega) (by simp)).trans gP2
  have gF3 : hm2_0.get (h.n + 1) = .cells 0 false [.int .i64 f.params,sv,rv,cv] := (fm2_0.get _ (by omega) (by simp)).trans gF2
  have gI3 : hm2_0.get (h.n + 1 + 1) = .cells 0 false [.int .i64 i.op, .int .i64 i.a, .int .i64 i.b, .int .i64 i.c, .int .u64 i.imm,lv] := (fm2_0.get _ (by omega) (by simp)).trans gI2
  have gW3 : hm2_0.get (h.n + 1 + 1 + 1) = .cells 0 false [.nils, .nils] := (fm2_0.get _ (by omega) (by simp)).trans gW2
  have f03 := f02.trans fm2_0
  simp -implicitDefEqProofs (disch := first|decide|assumption|omega|(simp -implicitDefEqProofs only [AM.RN];first|done|omega)|fail) only [↓AM.R0,AM.R1,AM.R2,Nat.reduceAdd,Nat.reduceLeDiff,Nat.reduceEqDiff,Int.reduceToNat,Nat.reduceLT,↓reduceIte,Int.reduceEq,Int.reduceLT,Int.reduceLE,gP0,gF0,gI0,gW0,gP1,gF1,gI1,gW1,gP2,gF2,gI2,gW2,gP3,gF3,gI3,gW3,cwa0,cwb0,bwa0,bwb0,b1,b2,b3,b4,b5,b6,bl,bi,bp,bs,AM.sameO_some,cl,c1,c2,c3,c4,c5,c6,e3,e4,e5,e7]
  refine AM.trCall_of (rMet (F0.keep f03) (l := [(i.a,0)]) ⟨va0,ka0,rfl,Wa0,Wb0⟩ (by simp)) ?_
  rintro r hm3_9 ⟨fm3_9,rfl⟩
  have n4 : h.n + 4 ≤ hm3_9.n := by have := fm3_9.n; omega
  have gP4 : hm3_9.get (h.n) = .cells 0 false [tv,gv,fv] := (fm3_9.get _ (by omega) (by simp)).trans gP3
  have gF4 : hm3_9.get (h.n + 1) = .cells 0 false [.int .i64 f.params,sv,rv,cv] := (fm3_9.get _ (by omega) (by simp)).trans gF3
  have gI4 : hm3_9.get (h.n + 1 + 1) = .cells 0 false [.int .i64 i.op, .int .i64 i.a, .int .i64 i.b, .int .i64 i.c, .int .u64 i.imm,lv] := (fm3_9.get _ (by omega) (by simp)).trans gI3
  have gW4 : hm3_9.get (h.n + 1 + 1 + 1) = .cells 0 false [.nils, .nils] := (fm3_9.get _ (by omega) (by simp)).trans gW3
  have f04 := f03.trans fm3_9
  simp -implicitDefEqProofs (disch := first|decide|assumption|omega|(simp -implicitDefEqProofs only [AM.RN];first|done|omega)|fail) only [↓AM.R0,AM.R1,AM.R2,Nat.reduceAdd,Nat.reduceLeDiff,Nat.reduceEqDiff,Int.reduceToNat,Nat.reduceLT,↓reduceIte,Int.reduceEq,Int.reduceLT,Int.reduceLE,gP0,gF0,gI0,gW0,gP1,gF1,gI1,gW1,gP2,gF2,gI2,gW2,gP3,gF3,gI3,gW3,gP4,gF4,gI4,gW4,cwa0,cwb0,bwa0,bwb0,b1,b2,b3,b4,b5,b6,bl,bi,bp,bs,AM.sameO_some,cl,c1,c2,c3,c4,c5,c6,e3,e4,e5,e7]
  subst hQ
  exact ⟨f04,by rw [lenF,if_neg hc']⟩
 simp only [decide_eq_false_iff_not] at hb
 have hb33 := hb
 clear hb
 simp -implicitDefEqProofs (disch := first|decide|assumption|omega|(simp -implicitDefEqProofs only [AM.RN];first|done|omega)|fail) only [↓AM.R0,AM.R1,AM.R2,Nat.reduceAdd,Nat.reduceLeDiff,Nat.reduceEqDiff,Int.reduceToNat,Nat.reduceLT,↓reduceIte,Int.reduceEq,Int.reduceLT,Int.reduceLE,e15]
 refine AM.cI_bool (fun hb => ?_) (fun hb => ?_)
 ·have hb : i.op = 33 := by simpa using hb
  have hm : memF p f.slots i = globF p f.slots i.a i.b := by unfold memF; rw [hb]; rfl
  rw [hm] at hQ
  by_cases hin : 0 ≤ i.b ∧ i.b < p.globals.length
  ·have d1 : decide ((p.globals.length : Int) ≤ i.b) = false := decide_eq_false (by omega)
   have d2 : decide (i.b < 0) = false := decide_eq_false (by omega)
   obtain ⟨k,hk⟩ : ∃ k,p.globals[i.b.toNat]? = some k := ⟨_,List.getElem?_eq_getElem (by omega)⟩
   obtain ⟨j,g,off,vs,ro,x1,x2,x3,x5⟩ := SlIn.ixI (RG.keep f0) hin.1 hk
   simp -implicitDefEqProofs (disch := first|decide|assumption|omega|(simp -implicitDefEqProofs only [AM.RN];first|done|omega)|fail) only [↓AM.R0,AM.R1,AM.R2,Nat.reduceAdd,Nat.reduceLeDiff,Nat.reduceEqDiff,Int.reduceToNat,Nat.reduceLT,↓reduceIte,Int.reduceEq,Int.reduceLT,Int.reduceLE,e3,e4,e5,e7,gP0,gF0,gI0,gW0,l2,d1,d2,x1,x2,x5,c1,c2,c3,c4,c5,c6]
   refine AM.trCall_of (rAnd (a := []) (b := []) nilW (by simp) (by simp) i.a k) ?_
   rintro r hm0_0 ⟨fm0_0,wr,rfl,W0⟩
   replace W0 : WantR hm0_0 wr [i.a] [k] := W0
   obtain ⟨va0,ka0,rfl,Wa0,Wb0⟩ := W0
   have cwa0 := SlIn.cellv Wa0
   have cwb0 := SlIn.cellv Wb0
   have bwa0 := SlIn.beqv Wa0
   have bwb0 := SlIn.beqv Wb0
   have n1 : h.n + 4 ≤ hm0_0.n := by have := fm0_0.n; omega
   have gP1 : hm0_0.get (h.n) = .cells 0 false [tv,gv,fv] := (fm0_0.get _ (by omega) (by simp)).trans gP0
   have gF1 : hm0_0.get (h.n + 1) = .cells 0 false [.int .i64 f.params,sv,rv,cv] := (fm0_0.get _ (by omega) (by simp)).trans gF0
   have gI1 : hm0_0.get (h.n + 1 + 1) = .cells 0 false [.int .i64 i.op, .int .i64 i.a, .int .i64 i.b, .int .i64 i.c, .int .u64 i.imm,lv] := (fm0_0.get _ (by omega) (by simp)).trans gI0
   have gW1 : hm0_0.get (h.n + 1 + 1 + 1) = .cells 0 false [.nils, .nils] := (fm0_0.get _ (by omega) (by simp)).trans gW0
   have f01 := f0.trans fm0_0
   simp -implicitDefEqProofs (disch := first|decide|assumption|omega|(simp -implicitDefEqProofs only [AM.RN];first|done|omega)|fail) only [↓AM.R0,AM.R1,AM.R2,Nat.reduceAdd,Nat.reduceLeDiff,Nat.reduceEqDiff,Int.reduceToNat,Nat.reduceLT,↓reduceIte,Int.reduceEq,Int.reduceLT,Int.reduceLE,gP0,gF0,gI0,gW0,gP1,gF1,gI1,gW1,cwa0,cwb0,bwa0,bwb0,b1,b2,b3,b4,b5,b6,bl,bi,bp,bs,AM.sameO_some,cl,c1,c2,c3,c4,c5,c6,e3,e4,e5,e7,x1,x2,x5]
   refine AM.trCall_of (rMet (F0.keep f01) (l := [(i.a,k)]) ⟨va0,ka0,rfl,Wa0,Wb0⟩ (by simp)) ?_
   rintro r hm1_9 ⟨fm1_9,rfl⟩
   have n2 : h.n + 4 ≤ hm1_9.n := by have := fm1_9.n; omega
   have gP2 : hm1_9.get (h.n) = .cells 0 false [tv,gv,fv] := (fm1_9.get _ (by omega) (by simp)).trans gP1
   have gF2 : hm1_9.get (h.n + 1) = .cells 0 false [.int .i64 f.params,sv,rv,cv] := (fm1_9.get _ (by omega) (by simp)).trans gF1
   have gI2 : hm1_9.get (h.n + 1 + 1) = .cells 0 false [.int .i64 i.op, .int .i64 i.a, .int .i64 i.b, .int .i64 i.c, .int .u64 i.imm,lv] := (fm1_9.get _ (by omega) (by simp)).trans gI1
   have gW2 : hm1_9.get (h.n + 1 + 1 + 1) = .cells 0 false [.nils, .nils] := (fm1_9.get _ (by omega) (by simp)).trans gW1
   have f02 := f01.trans fm1_9
   simp -implicitDefEqProofs (disch := first|decide|assumption|omega|(simp -implicitDefEqProofs only [AM.RN];first|done|omega)|fail) only [↓AM.R0,AM.R1,AM.R2,Nat.reduceAdd,Nat.reduceLeDiff,Nat.reduceEqDiff,Int.reduceToNat,Nat.reduceLT,↓reduceIte,Int.reduceEq,Int.reduceLT,Int.reduceLE,gP0,gF0,gI0,gW0,gP1,gF1,gI1,gW1,gP2,gF2,gI2,gW2,cwa0,cwb0,bwa0,bwb0,b1,b2,b3,b4,b5,b6,bl,bi,bp,bs,AM.sameO_some,cl,c1,c2,c3,c4,c5,c6,e3,e4,e5,e7,x1,x2,x5]
   subst hQ
   exact ⟨f02,by rw [globF,if_neg (by omega), hk]; rfl⟩
  ·have hg : globF p f.slots i.a i.b = 15 := by rw [globF,if_pos (by omega)]
   rcases Int.lt_or_le i.b 0 with hlt | hle
   ·have d2 : decide (i.b < 0) = true := decide_eq_true (by omega)
    simp -implicitDefEqProofs (disch := first|decide|assumption|omega|(simp -implicitDefEqProofs only [AM.RN];first|done|omega)|fail) only [↓AM.R0,AM.R1,AM.R2,Nat.reduceAdd,Nat.reduceLeDiff,Nat.reduceEqDiff,Int.reduceToNat,Nat.reduceLT,↓reduceIte,Int.reduceEq,Int.reduceLT,Int.reduceLE,e3,e4,e5,e7,gP0,gI0,l2,d2]
    subst hQ
    exact ⟨f0,by rw [hg]⟩
   ·have d1 : decide ((p.globals.length : Int) ≤ i.b) = true := decide_eq_true (by omega)
    have d2 : decide (i.b < 0) = false := decide_eq_false (by omega)
    simp -implicitDefEqProofs (disch := first|decide|assumption|omega|(simp -implicitDefEqProofs only [AM.RN];first|done|omega)|fail) only [↓AM.R0,AM.R1,AM.R2,Nat.reduceAdd,Nat.reduceLeDiff,Nat.reduceEqDiff,Int.reduceToNat,Nat.reduceLT,↓reduceIte,Int.reduceEq,Int.reduceLT,Int.reduceLE,e3,e4,e5,e7,gP0,gI0,l2,d1,d2]
    subst hQ
    exact ⟨f0,by rw [hg]⟩
 simp only [decide_eq_false_iff_not] at hb
 have hb34 := hb
 clear hb
 simp -implicitDefEqProofs (disch := first|decide|assumption|omega|(simp -implicitDefEqProofs only [AM.RN];first|done|omega)|fail) only [↓AM.R0,AM.R1,AM.R2,Nat.reduceAdd,Nat.reduceLeDiff,Nat.reduceEqDiff,Int.reduceToNat,Nat.reduceLT,↓reduceIte,Int.reduceEq,Int.reduceLT,Int.reduceLE,e15]
 refine AM.cI_bool (fun hb => ?_) (fun hb => ?_)
 ·have hb : i.op = 34 := by simpa using hb
  have hm : memF p f.slots i = globF p f.slots i.b i.a := by unfold memF; rw [hb]; rfl
  rw [hm] at hQ
  by_cases hin : 0 ≤ i.a ∧ i.a < p.globals.length
  ·have d1 : decide ((p.globals.length : Int) ≤ i.a) = false := decide_eq_false (by omega)
   have d2 : decide (i.a < 0) = false := decide_eq_false (by omega)
   obtain ⟨k,hk⟩ : ∃ k,p.globals[i.a.toNat]? = some k := ⟨_,List.getElem?_eq_getElem (by omega)⟩
   obtain ⟨j,g,off,vs,ro,x1,x2,x3,x5⟩ := SlIn.ixI (RG.keep f0) hin.1 hk
   simp -implicitDefEqProofs (disch := first|decide|assumption|omega|(simp -implicitDefEqProofs only [AM.RN];first|done|omega)|fail) only [↓AM.R0,AM.R1,AM.R2,Nat.reduceAdd,Nat.reduceLeDiff,Nat.reduceEqDiff,Int.reduceToNat,Nat.reduceLT,↓reduceIte,Int.reduceEq,Int.reduceLT,Int.reduceLE,e3,e4,e5,e7,gP0,gF0,gI0,gW0,l2,d1,d2,x1,x2,x5,c1,c2,c3,c4,c5,c6]
   refine AM.trCall_of (rAnd (a := []) (b := []) nilW (by simp) (by simp) i.b k) ?_
   rintro r hm0_0 ⟨fm0_0,wr,rfl,W0⟩
   replace W0 : WantR hm0_0 wr [i.b] [k] := W0
   obtain ⟨va0,ka0,rfl,Wa0,Wb0⟩ := W0
   have cwa0 := SlIn.cellv Wa0
   have cwb0 := SlIn.cellv Wb0
   have bwa0 := SlIn.beqv Wa0
   have bwb0 := SlIn.beqv Wb0
   have n1 : h.n + 4 ≤ hm0_0.n := by have := fm0_0.n; omega
   have gP1 : hm0_0.get (h.n) = .cells 0 false [tv,gv,fv] := (fm0_0.get _ (by omega) (by simp)).trans gP0
   have gF1 : hm0_0.get (h.n + 1) = .cells 0 false [.int .i64 f.params,sv,rv,cv] := (fm0_0.get _ (by omega) (by simp)).trans gF0
   have gI1 : hm0_0.get (h.n + 1 + 1) = .cells 0 false [.int .i64 i.op, .int .i64 i.a, .int .i64 i.b, .int .i64 i.c, .int .u64 i.imm,lv] := (fm0_0.get _ (by omega) (by simp)).trans gI0
   have gW1 : hm0_0.get (h.n + 1 + 1 + 1) = .cells 0 false [.nils, .nils] := (fm0_0.get _ (by omega) (by simp)).trans gW0
   have f01 := f0.trans fm0_0
   simp -implicitDefEqProofs (disch := first|decide|assumption|omega|(simp -implicitDefEqProofs only [AM.RN];first|done|omega)|fail) only [↓AM.R0,AM.R1,AM.R2,Nat.reduceAdd,Nat.reduceLeDiff,Nat.reduceEqDiff,Int.reduceToNat,Nat.reduceLT,↓reduceIte,Int.reduceEq,Int.reduceLT,Int.reduceLE,gP0,gF0,gI0,gW0,gP1,gF1,gI1,gW1,cwa0,cwb0,bwa0,bwb0,b1,b2,b3,b4,b5,b6,bl,bi,bp,bs,AM.sameO_some,cl,c1,c2,c3,c4,c5,c6,e3,e4,e5,e7,x1,x2,x5]
   refine AM.trCall_of (rMet (F0.keep f01) (l := [(i.b,k)]) ⟨va0,ka0,rfl,Wa0,Wb0⟩ (by simp)) ?_
   rintro r hm1_9 ⟨fm1_9,rfl⟩
   have n2 : h.n + 4 ≤ hm1_9.n := by have := fm1_9.n; omega
   have gP2 : hm1_9.get (h.n) = .cells 0 false [tv,gv,fv] := (fm1_9.get _ (by omega) (by simp)).trans gP1
   have gF2 : hm1_9.get (h.n + 1) = .cells 0 false [.int .i64 f.params,sv,rv,cv] := (fm1_9.get _ (by omega) (by simp)).trans gF1
   have gI2 : hm1_9.get (h.n + 1 + 1) = .cells 0 false [.int .i64 i.op, .int .i64 i.a, .int .i64 i.b, .int .i64 i.c, .int .u64 i.imm,lv] := (fm1_9.get _ (by omega) (by simp)).trans gI1
   have gW2 : hm1_9.get (h.n + 1 + 1 + 1) = .cells 0 false [.nils, .nils] := (fm1_9.get _ (by omega) (by simp)).trans gW1
   have f02 := f01.trans fm1_9
   simp -implicitDefEqProofs (disch := first|decide|assumption|omega|(simp -implicitDefEqProofs only [AM.RN];first|done|omega)|fail) only [↓AM.R0,AM.R1,AM.R2,Nat.reduceAdd,Nat.reduceLeDiff,Nat.reduceEqDiff,Int.reduceToNat,Nat.reduceLT,↓reduceIte,Int.reduceEq,Int.reduceLT,Int.reduceLE,gP0,gF0,gI0,gW0,gP1,gF1,gI1,gW1,gP2,gF2,gI2,gW2,cwa0,cwb0,bwa0,bwb0,b1,b2,b3,b4,b5,b6,bl,bi,bp,bs,AM.sameO_some,cl,c1,c2,c3,c4,c5,c6,e3,e4,e5,e7,x1,x2,x5]
   subst hQ
   exact ⟨f02,by rw [globF,if_neg (by omega), hk]; rfl⟩
  ·have hg : globF p f.slots i.b i.a = 15 := by rw [globF,if_pos (by omega)]
   rcases Int.lt_or_le i.a 0 with hlt | hle
   ·have d2 : decide (i.a < 0) = true := decide_eq_true (by omega)
    simp -implicitDefEqProofs (disch := first|decide|assumption|omega|(simp -implicitDefEqProofs only [AM.RN];first|done|omega)|fail) only [↓AM.R0,AM.R1,AM.R2,Nat.reduceAdd,Nat.reduceLeDiff,Nat.reduceEqDiff,Int.reduceToNat,Nat.reduceLT,↓reduceIte,Int.reduceEq,Int.reduceLT,Int.reduceLE,e3,e4,e5,e7,gP0,gI0,l2,d2]
    subst hQ
    exact ⟨f0,by rw [hg]⟩
   ·have d1 : decide ((p.globals.length : Int) ≤ i.a) = true := decide_eq_true (by omega)
    have d2 : decide (i.a < 0) = false := decide_eq_false (by omega)
    simp -implicitDefEqProofs (disch := first|decide|assumption|omega|(simp -implicitDefEqProofs only [AM.RN];first|done|omega)|fail) only [↓AM.R0,AM.R1,AM.R2,Nat.reduceAdd,Nat.reduceLeDiff,Nat.reduceEqDiff,Int.reduceToNat,Nat.reduceLT,↓reduceIte,Int.reduceEq,Int.reduceLT,Int.reduceLE,e3,e4,e5,e7,gP0,gI0,l2,d1,d2]
    subst hQ
    exact ⟨f0,by rw [hg]⟩
 simp only [decide_eq_false_iff_not] at hb
 have hb29 := hb
 clear hb
 simp -implicitDefEqProofs (disch := first|decide|assumption|omega|(simp -implicitDefEqProofs only [AM.RN];first|done|omega)|fail) only [↓AM.R0,AM.R1,AM.R2,Nat.reduceAdd,Nat.reduceLeDiff,Nat.reduceEqDiff,Int.reduceToNat,Nat.reduceLT,↓reduceIte,Int.reduceEq,Int.reduceLT,Int.reduceLE,e15]
 refine AM.cI_bool (fun hb => ?_) (fun hb => ?_)
 ·have hb : i.op = 29 := by simpa using hb
  have hm : memF p f.slots i = fieldF p f.slots i.b i.c i.a := by rw [← wordF_false]; unfold memF; rw [hb]; rfl
  rw [hm] at hQ
  simp -implicitDefEqProofs (disch := first|decide|assumption|omega|(simp -implicitDefEqProofs only [AM.RN];first|done|omega)|fail) only [↓AM.R0,AM.R1,AM.R2,Nat.reduceAdd,Nat.reduceLeDiff,Nat.reduceEqDiff,Int.reduceToNat,Nat.reduceLT,↓reduceIte,Int.reduceEq,Int.reduceLT,Int.reduceLE,e3,e4,e5,e7,gP0,gF0,gI0,c1,c2,c3,c4,c5,c6]
  refine AM.callI_of (rField (P0.keep f0) (F0.keep f0) H i.b i.c i.a) ?_
  rintro r h1 ⟨f1,rfl⟩
  simp -implicitDefEqProofs (disch := first|decide|assumption|omega|(simp -implicitDefEqProofs only [AM.RN];first|done|omega)|fail) only [↓AM.R0,AM.R1,AM.R2,Nat.reduceAdd,Nat.reduceLeDiff,Nat.reduceEqDiff,Int.reduceToNat,Nat.reduceLT,↓reduceIte,Int.reduceEq,Int.reduceLT,Int.reduceLE]
  subst hQ
  exact ⟨f0.trans f1,rfl⟩
 simp only [decide_eq_false_iff_not] at hb
 have hb30 := hb
 clear hb
 simp -implicitDefEqProofs (disch := first|decide|assumption|omega|(simp -implicitDefEqProofs only [AM.RN];first|done|omega)|fail) only [↓AM.R0,AM.R1,AM.R2,Nat.reduceAdd,Nat.reduceLeDiff,Nat.reduceEqDiff,Int.reduceToNat,Nat.reduceLT,↓reduceIte,Int.reduceEq,Int.reduceLT,Int.reduceLE,e15]
 refine AM.cI_bool (fun hb => ?_) (fun hb => ?_)
 ·have hb : i.op = 30 := by simpa using hb
  have hm : memF p f.slots i = fieldF p f.slots i.a i.c i.b := by rw [← wordF_false]; unfold memF; rw [hb]; rfl
  rw [hm] at hQ
  simp -implicitDefEqProofs (disch := first|decide|assumption|omega|(simp -implicitDefEqProofs only [AM.RN];first|done|omega)|fail) only [↓AM.R0,AM.R1,AM.R2,Nat.reduceAdd,Nat.reduceLeDiff,Nat.reduceEqDiff,Int.reduceToNat,Nat.reduceLT,↓reduceIte,Int.reduceEq,Int.reduceLT,Int.reduceLE,e3,e4,e5,e7,gP0,gF0,gI0,c1,c2,c3,c4,c5,c6]
  refine AM.callI_of (rField (P0.keep f0) (F0.keep f0) H i.a i.c i.b) ?_
  rintro r h1 ⟨f1,rfl⟩
  simp -implicitDefEqProofs (disch := first|decide|assumption|omega|(simp -implicitDefEqProofs only [AM.RN];first|done|omega)|fail) only [↓AM.R0,AM.R1,AM.R2,Nat.reduceAdd,Nat.reduceLeDiff,Nat.reduceEqDiff,Int.reduceToNat,Nat.reduceLT,↓reduceIte,Int.reduceEq,Int.reduceLT,Int.reduceLE]
  subst hQ
  exact ⟨f0.trans f1,rfl⟩
 simp only [decide_eq_false_iff_not] at hb
 simp -implicitDefEqProofs (disch := first|decide|assumption|omega|(simp -implicitDefEqProofs only [AM.RN];first|done|omega)|fail) only [↓AM.R0,AM.R1,AM.R2,Nat.reduceAdd,Nat.reduceLeDiff,Nat.reduceEqDiff,Int.reduceToNat,Nat.reduceLT,↓reduceIte,Int.reduceEq,Int.reduceLT,Int.reduceLE,e3,e4,e5,e7,gP0,gF0,gI0,gW0]
 refine AM.cI_bool (fun hd => ?_) (fun hd => ?_)
 ·have hd : i.op = 32 := by simpa using hd
  have hm : memF p f.slots i = wordF p f.slots i i.a i.b true := by unfold memF; rw [hd]; rfl
  rw [hm] at hQ
  simp -implicitDefEqProofs (disch := first|decide|assumption|omega|(simp -implicitDefEqProofs only [AM.RN];first|done|omega)|fail) only [↓AM.R0,AM.R1,AM.R2,Nat.reduceAdd,Nat.reduceLeDiff,Nat.reduceEqDiff,Int.reduceToNat,Nat.reduceLT,↓reduceIte,Int.reduceEq,Int.reduceLT,Int.reduceLE,e3,e4,e5,e7,gP0,gF0,gI0,c1,c2,c3,c4,c5,c6]
  refine AM.callI_of (rTypeOf (P0.keep f0) (F0.keep f0) H i.a true) ?_
  rintro r h1 ⟨f1,row,rfl,fl,rfl,xl⟩
  have cf := SlIn.cellv xl
  have n1 : h.n + 4 ≤ h1.n := by have := f1.n; omega
  have gP1 : h1.get (h.n) = .cells 0 false [tv,gv,fv] := (f1.get _ (by omega) (by simp)).trans gP0
  have gF1 : h1.get (h.n + 1) = .cells 0 false [.int .i64 f.params,sv,rv,cv] := (f1.get _ (by omega) (by simp)).trans gF0
  have gI1 : h1.get (h.n + 1 + 1) = .cells 0 false [.int .i64 i.op, .int .i64 i.a, .int .i64 i.b, .int .i64 i.c, .int .u64 i.imm,lv] := (f1.get _ (by omega) (by simp)).trans gI0
  have gW1 : h1.get (h.n + 1 + 1 + 1) = .cells 0 false [.nils, .nils] := (f1.get _ (by omega) (by simp)).trans gW0
  have f01 := f0.trans f1
  simp -implicitDefEqProofs (disch := first|decide|assumption|omega|(simp -implicitDefEqProofs only [AM.RN];first|done|omega)|fail) only [↓AM.R0,AM.R1,AM.R2,Nat.reduceAdd,Nat.reduceLeDiff,Nat.reduceEqDiff,Int.reduceToNat,Nat.reduceLT,↓reduceIte,Int.reduceEq,Int.reduceLT,Int.reduceLE,cf]
  have fX := ((HFrame.refl (h := h1) (F := []) (by simp)).pushTmp (.cells 0 false [.bool false, .nils])).setTmp (i := h1.n) (Nat.le_refl _) (.cells 0 false [.bool (objF p f.slots i.a true).2.1,fl])
  obtain ⟨hB,hhB⟩ : ∃ hB,hB = (h1.push (.cells 0 false [.bool false, .nils])).set h1.n (.cells 0 false [.bool (objF p f.slots i.a true).2.1,fl]) := ⟨_,rfl⟩
  have gT : hB.get h1.n = .cells 0 false [.bool (objF p f.slots i.a true).2.1,fl] := by rw [hhB]; exact AHeap.get_set_same _ _ _
  have nB : hB.n = h1.n + 1 := by rw [hhB]; rfl
  rw [← hhB] at fX ⊢
  clear hhB
  have n2 : h.n + 4 ≤ hB.n := by have := fX.n; omega
  have gP2 : hB.get (h.n) = .cells 0 false [tv,gv,fv] := (fX.get _ (by omega) (by simp)).trans gP1
  have gF2 : hB.get (h.n + 1) = .cells 0 false [.int .i64 f.params,sv,rv,cv] := (fX.get _ (by omega) (by simp)).trans gF1
  have gI2 : hB.get (h.n + 1 + 1) = .cells 0 false [.int .i64 i.op, .int .i64 i.a, .int .i64 i.b, .int .i64 i.c, .int .u64 i.imm,lv] := (fX.get _ (by omega) (by simp)).trans gI1
  have gW2 : hB.get (h.n + 1 + 1 + 1) = .cells 0 false [.nils, .nils] := (fX.get _ (by omega) (by simp)).trans gW1
  have f02 := f01.trans fX
  have xlB := xl.keep fX
  refine AM.cI_bool (fun hc => ?_) (fun hc => ?_)
  ·have hc' : (objF p f.slots i.a true).1 ≠ 0 := by simpa using hc
   simp -implicitDefEqProofs (disch := first|decide|assumption|omega|(simp -implicitDefEqProofs only [AM.RN];first|done|omega)|fail) only [↓AM.R0,AM.R1,AM.R2,Nat.reduceAdd,Nat.reduceLeDiff,Nat.reduceEqDiff,Int.reduceToNat,Nat.reduceLT,↓reduceIte,Int.reduceEq,Int.reduceLT,Int.reduceLE]
   subst hQ
   exact ⟨f02,by rw [wordF,if_pos hc']⟩
  have hc' : ¬ (objF p f.slots i.a true).1 ≠ 0 := by simpa using hc
  have hne := (objF_ne T H (by simpa using hc' : (objF p f.slots i.a true).1 = 0)).1
  have hw : wordF p f.slots i i.a i.b true = areF f.slots [(i.b, (objF p f.slots i.a true).2.2.headD 0), (i.c,0)] := by rw [wordF,if_neg hc', if_pos rfl]
  rw [hw] at hQ
  clear hm hw
  have hk : (objF p f.slots i.a true).2.2[0]? = some ((objF p f.slots i.a true).2.2.headD 0) := by
   generalize (objF p f.slots i.a true).2.2 = l at hne
   cases l with
   | nil => exact absurd rfl hne
   | cons a r => rfl
  obtain ⟨j,g,off,vs,ro,x1,x2,x3,x5⟩ := (xlB.rd hk).ix1 (enc := fun n => .int .i64 n) hk .i64
  replace x1 : ixV hB 1 fl (.int .i64 0) = some (.ptr j g off,hB) := x1
  simp -implicitDefEqProofs (disch := first|decide|assumption|omega|(simp -implicitDefEqProofs only [AM.RN];first|done|omega)|fail) only [↓AM.R0,AM.R1,AM.R2,Nat.reduceAdd,Nat.reduceLeDiff,Nat.reduceEqDiff,Int.reduceToNat,Nat.reduceLT,↓reduceIte,Int.reduceEq,Int.reduceLT,Int.reduceLE,e3,e4,e5,e7,gP2,gF2,gI2,gW2,gT,x1,x2,x5,c1,c2,c3,c4,c5,c6]
  refine AM.trCall_of (rAnd (a := []) (b := []) nilW (by simp) (by simp) i.b ((objF p f.slots i.a true).2.2.headD 0)) ?_
  rintro r hm2_0 ⟨fm2_0,wr,rfl,W0⟩
  replace W0 : WantR hm2_0 wr [i.b] [((objF p f.slots i.a true).2.2.headD 0)] := W0
  obtain ⟨va0,ka0,rfl,Wa0,Wb0⟩ := W0
  have cwa0 := SlIn.cellv Wa0
  have cwb0 := SlIn.cellv Wb0
  have bwa0 := SlIn.beqv Wa0
  have bwb0 := SlIn.beqv Wb0
  have n3 : h.n + 4 ≤ hm2_0.n := by have := fm2_0.n; omega
  have gP3 : hm2_0.get (h.n) = .cells 0 false [tv,gv,fv] := (fm2_0.get _ (by omega) (by simp)).trans gP2
  have gF3 : hm2_0.get (h.n + 1) = .cells 0 false [.int .i64 f.params,sv,rv,cv] := (fm2_0.get _ (by omega) (by simp)).trans gF2
  have gI3 : hm2_0.get (h.n + 1 + 1) = .cells 0 false [.int .i64 i.op, .int .i64 i.a, .int .i64 i.b, .int .i64 i.c, .int .u64 i.imm,lv] := (fm2_0.get _ (by omega) (by simp)).trans gI2
  have gW3 : hm2_0.get (h.n + 1 + 1 + 1) = .cells 0 false [.nils, .nils] := (fm2_0.get _ (by omega) (by simp)).trans gW2
  have f03 := f02.trans fm2_0
  simp -implicitDefEqProofs (disch := first|decide|assumption|omega|(simp -implicitDefEqProofs only [AM.RN];first|done|omega)|fail) only [↓AM.R0,AM.R1,AM.R2,Nat.reduceAdd,Nat.reduceLeDiff,Nat.reduceEqDiff,Int.reduceToNat,Nat.reduceLT,↓reduceIte,Int.reduceEq,Int.reduceLT,Int.reduceLE,gP0,gF0,gI0,gW0,gP1,gF1,gI1,gW1,gP2,gF2,gI2,gW2,gP3,gF3,gI3,gW3,cwa0,cwb0,bwa0,bwb0,b1,b2,b3,b4,b5,b6,bl,bi,bp,bs,AM.sameO_some,cl,c1,c2,c3,c4,c5,c6,e3,e4,e5,e7,gT,x1,x2,x5]
  refine AM.trCall_of (rAnd (a := [i.b]) (b := [((objF p f.slots i.a true).2.2.headD 0)]) ⟨va0,ka0,rfl,Wa0,Wb0⟩ (by simp) (by simp) i.c 0) ?_
  rintro r hm3_1 ⟨fm3_1,wr,rfl,W1⟩
  replace W1 : WantR hm3_1 wr [i.b,i.c] [((objF p f.slots i.a true).2.2.headD 0), 0] := W1
  obtain ⟨va1,ka1,rfl,Wa1,Wb1⟩ := W1
  have cwa1 := SlIn.cellv Wa1
  have cwb1 := SlIn.cellv Wb1
  have bwa1 := SlIn.beqv Wa1
  have bwb1 := SlIn.beqv Wb1
  have n4 : h.n + 4 ≤ hm3_1.n := by have := fm3_1.n; omega
  have gP4 : hm3_1.get (h.n) = .cells 0 false [tv,gv,fv] := (fm3_1.get _ (by omega) (by simp)).trans gP3
  have gF4 : hm3_1.get (h.n + 1) = .cells 0 false [.int .i64 f.params,sv,rv,cv] := (fm3_1.get _ (by omega) (by simp)).trans gF3
  have gI4 : hm3_1.get (h.n + 1 + 1) = .cells 0 false [.int .i64 i.op, .int .i64 i.a, .int .i64 i.b, .int .i64 i.c, .int .u64 i.imm,lv] := (fm3_1.get _ (by omega) (by simp)).trans gI3
  have gW4 : hm3_1.get (h.n + 1 + 1 + 1) = .cells 0 false [.nils, .nils] := (fm3_1.get _ (by omega) (by simp)).trans gW3
  have f04 := f03.trans fm3_1
  simp -implicitDefEqProofs (disch := first|decide|assumption|omega|(simp -implicitDefEqProofs only [AM.RN];first|done|omega)|fail) only [↓AM.R0,AM.R1,AM.R2,Nat.reduceAdd,Nat.reduceLeDiff,Nat.reduceEqDiff,Int.reduceToNat,Nat.reduceLT,↓reduceIte,Int.reduceEq,Int.reduceLT,Int.reduceLE,gP0,gF0,gI0,gW0,gP1,gF1,gI1,gW1,gP2,gF2,gI2,gW2,gP3,gF3,gI3,gW3,gP4,gF4,gI4,gW4,cwa0,cwb0,bwa0,bwb0,cwa1,cwb1,bwa1,bwb1,b1,b2,b3,b4,b5,b6,bl,bi,bp,bs,AM.sameO_some,cl,c1,c2,c3,c4,c5,c6,e3,e4,e5,e7,gT,x1,x2,x5]
  refine AM.trCall_of (rMet (F0.keep f04) (l := [(i.b, ((objF p f.slots i.a true).2.2.headD 0)), (i.c,0)]) ⟨va1,ka1,rfl,Wa1,Wb1⟩ (by simp)) ?_
  rintro r hm4_9 ⟨fm4_9,rfl⟩
  have n5 : h.n + 4 ≤ hm4_9.n := by have := fm4_9.n; omega
  have gP5 : hm4_9.get (h.n) = .cells 0 false [tv,gv,fv] := (fm4_9.get _ (by omega) (by simp)).trans gP4
  have gF5 : hm4_9.get (h.n + 1) = .cells 0 false [.int .i64 f.params,sv,rv,cv] := (fm4_9.get _ (by omega) (by simp)).trans gF4
  have gI5 : hm4_9.get (h.n + 1 + 1) = .cells 0 false [.int .i64 i.op, .int .i64 i.a, .int .i64 i.b, .int .i64 i.c, .int .u64 i.imm,lv] := (fm4_9.get _ (by omega) (by simp)).trans gI4
  have gW5 : hm4_9.get (h.n + 1 + 1 + 1) = .cells 0 false [.nils, .nils] := (fm4_9.get _ (by omega) (by simp)).trans gW4
  have f05 := f04.trans fm4_9
  simp -implicitDefEqProofs (disch := first|decide|assumption|omega|(simp -implicitDefEqProofs only [AM.RN];first|done|omega)|fail) only [↓AM.R0,AM.R1,AM.R2,Nat.reduceAdd,Nat.reduceLeDiff,Nat.reduceEqDiff,Int.reduceToNat,Nat.reduceLT,↓reduceIte,Int.reduceEq,Int.reduceLT,Int.reduceLE,gP0,gF0,gI0,gW0,gP1,gF1,gI1,gW1,gP2,gF2,gI2,gW2,gP3,gF3,gI3,gW3,gP4,gF4,gI4,gW4,gP5,gF5,gI5,gW5,cwa0,cwb0,bwa0,bwb0,cwa1,cwb1,bwa1,bwb1,b1,b2,b3,b4,b5,b6,bl,bi,bp,bs,AM.sameO_some,cl,c1,c2,c3,c4,c5,c6,e3,e4,e5,e7,gT,x1,x2,x5]
  subst hQ
  exact ⟨f05,rfl⟩
 ·have hd : i.op = 31 := by simp only [decide_eq_false_iff_not] at hd; simp only [orB,List.any_cons,List.any_nil,Bool.or_false,Bool.or_eq_false_iff,decide_eq_false_iff_not] at m1; omega
  have hm : memF p f.slots i = wordF p f.slots i i.b i.a true := by unfold memF; rw [hd]; rfl
  rw [hm] at hQ
  simp -implicitDefEqProofs (disch := first|decide|assumption|omega|(simp -implicitDefEqProofs only [AM.RN];first|done|omega)|fail) only [↓AM.R0,AM.R1,AM.R2,Nat.reduceAdd,Nat.reduceLeDiff,Nat.reduceEqDiff,Int.reduceToNat,Nat.reduceLT,↓reduceIte,Int.reduceEq,Int.reduceLT,Int.reduceLE,e3,e4,e5,e7,gP0,gF0,gI0,c1,c2,c3,c4,c5,c6]
  refine AM.callI_of (rTypeOf (P0.keep f0) (F0.keep f0) H i.b true) ?_
  rintro r h1 ⟨f1,row,rfl,fl,rfl,xl⟩
  have cf := SlIn.cellv xl
  have n1 : h.n + 4 ≤ h1.n := by have := f1.n; omega
  have gP1 : h1.get (h.n) = .cells 0 false [tv,gv,fv] := (f1.get _ (by omega) (by simp)).trans gP0
  have gF1 : h1.get (h.n + 1) = .cells 0 false [.int .i64 f.params,sv,rv,cv] := (f1.get _ (by omega) (by simp)).trans gF0
  have gI1 : h1.get (h.n + 1 + 1) = .cells 0 false [.int .i64 i.op, .int .i64 i.a, .int .i64 i.b, .int .i64 i.c, .int .u64 i.imm,lv] := (f1.get _ (by omega) (by simp)).trans gI0
  have gW1 : h1.get (h.n + 1 + 1 + 1) = .cells 0 false [.nils, .nils] := (f1.get _ (by omega) (by simp)).trans gW0
  have f01 := f0.trans f1
  simp -implicitDefEqProofs (disch := first|decide|assumption|omega|(simp -implicitDefEqProofs only [AM.RN];first|done|omega)|fail) only [↓AM.R0,AM.R1,AM.R2,Nat.reduceAdd,Nat.reduceLeDiff,Nat.reduceEqDiff,Int.reduceToNat,Nat.reduceLT,↓reduceIte,Int.reduceEq,Int.reduceLT,Int.reduceLE,cf]
  have fX := ((HFrame.refl (h := h1) (F := []) (by simp)).pushTmp (.cells 0 false [.bool false, .nils])).setTmp (i := h1.n) (Nat.le_refl _) (.cells 0 false [.bool (objF p f.slots i.b true).2.1,fl])
  obtain ⟨hB,hhB⟩ : ∃ hB,hB = (h1.push (.cells 0 false [.bool false, .nils])).set h1.n (.cells 0 false [.bool (objF p f.slots i.b true).2.1,fl]) := ⟨_,rfl⟩
  have gT : hB.get h1.n = .cells 0 false [.bool (objF p f.slots i.b true).2.1,fl] := by rw [hhB]; exact AHeap.get_set_same _ _ _
  have nB : hB.n = h1.n + 1 := by rw [hhB]; rfl
  rw [← hhB] at fX ⊢
  clear hhB
  have n2 : h.n + 4 ≤ hB.n := by have := fX.n; omega
  have gP2 : hB.get (h.n) = .cells 0 false [tv,gv,fv] := (fX.get _ (by omega) (by simp)).trans gP1
  have gF2 : hB.get (h.n + 1) = .cells 0 false [.int .i64 f.params,sv,rv,cv] := (fX.get _ (by omega) (by simp)).trans gF1
  have gI2 : hB.get (h.n + 1 + 1) = .cells 0 false [.int .i64 i.op, .int .i64 i.a, .int .i64 i.b, .int .i64 i.c, .int .u64 i.imm,lv] := (fX.get _ (by omega) (by simp)).trans gI1
  have gW2 : hB.get (h.n + 1 + 1 + 1) = .cells 0 false [.nils, .nils] := (fX.get _ (by omega) (by simp)).trans gW1
  have f02 := f01.trans fX
  have xlB := xl.keep fX
  refine AM.cI_bool (fun hc => ?_) (fun hc => ?_)
  ·have hc' : (objF p f.slots i.b true).1 ≠ 0 := by simpa using hc
   simp -implicitDefEqProofs (disch := first|decide|assumption|omega|(simp -implicitDefEqProofs only [AM.RN];first|done|omega)|fail) only [↓AM.R0,AM.R1,AM.R2,Nat.reduceAdd,Nat.reduceLeDiff,Nat.reduceEqDiff,Int.reduceToNat,Nat.reduceLT,↓reduceIte,Int.reduceEq,Int.reduceLT,Int.reduceLE]
   subst hQ
   exact ⟨f02,by rw [wordF,if_pos hc']⟩
  have hc' : ¬ (objF p f.slots i.b true).1 ≠ 0 := by simpa using hc
  have hne := (objF_ne T H (by simpa using hc' : (objF p f.slots i.b true).1 = 0)).1
  have hw : wordF p f.slots i i.b i.a true = areF f.slots [(i.a, (objF p f.slots i.b true).2.2.headD 0), (i.c,0)] := by rw [wordF,if_neg hc', if_pos rfl]
  rw [hw] at hQ
  clear hm hw
  have hk : (objF p f.slots i.b true).2.2[0]? = some ((objF p f.slots i.b true).2.2.headD 0) := by
   generalize (objF p f.slots i.b true).2.2 = l at hne
   cases l with
   | nil => exact absurd rfl hne
   | cons a r => rfl
  obtain ⟨j,g,off,vs,ro,x1,x2,x3,x5⟩ := (xlB.rd hk).ix1 (enc := fun n => .int .i64 n) hk .i64
  replace x1 : ixV hB 1 fl (.int .i64 0) = some (.ptr j g off,hB) := x1
  simp -implicitDefEqProofs (disch := first|decide|assumption|omega|(simp -implicitDefEqProofs only [AM.RN];first|done|omega)|fail) only [↓AM.R0,AM.R1,AM.R2,Nat.reduceAdd,Nat.reduceLeDiff,Nat.reduceEqDiff,Int.reduceToNat,Nat.reduceLT,↓reduceIte,Int.reduceEq,Int.reduceLT,Int.reduceLE,e3,e4,e5,e7,gP2,gF2,gI2,gW2,gT,x1,x2,x5,c1,c2,c3,c4,c5,c6]
  refine AM.trCall_of (rAnd (a := []) (b := []) nilW (by simp) (by simp) i.a ((objF p f.slots i.b true).2.2.headD 0)) ?_
  rintro r hm2_0 ⟨fm2_0,wr,rfl,W0⟩
  replace W0 : WantR hm2_0 wr [i.a] [((objF p f.slots i.b true).2.2.headD 0)] := W0
  obtain ⟨va0,ka0,rfl,Wa0,Wb0⟩ := W0
  have cwa0 := SlIn.cellv Wa0
  have cwb0 := SlIn.cellv Wb0
  have bwa0 := SlIn.beqv Wa0
  have bwb0 := SlIn.beqv Wb0
  have n3 : h.n + 4 ≤ hm2_0.n := by have := fm2_0.n; omega
  have gP3 : hm2_0.get (h.n) = .cells 0 false [tv,gv,fv] := (fm2_0.get _ (by omega) (by simp)).trans gP2
  have gF3 : hm2_0.get (h.n + 1) = .cells 0 false [.int .i64 f.params,sv,rv,cv] := (fm2_0.get _ (by omega) (by simp)).trans gF2
  have gI3 : hm2_0.get (h.n + 1 + 1) = .cells 0 false [.int .i64 i.op, .int .i64 i.a, .int .i64 i.b, .int .i64 i.c, .int .u64 i.imm,lv] := (fm2_0.get _ (by omega) (by simp)).trans gI2
  have gW3 : hm2_0.get (h.n + 1 + 1 + 1) = .cells 0 false [.nils, .nils] := (fm2_0.get _ (by omega) (by simp)).trans gW2
  have f03 := f02.trans fm2_0
  simp -implicitDefEqProofs (disch := first|decide|assumption|omega|(simp -implicitDefEqProofs only [AM.RN];first|done|omega)|fail) only [↓AM.R0,AM.R1,AM.R2,Nat.reduceAdd,Nat.reduceLeDiff,Nat.reduceEqDiff,Int.reduceToNat,Nat.reduceLT,↓reduceIte,Int.reduceEq,Int.reduceLT,Int.reduceLE,gP0,gF0,gI0,gW0,gP1,gF1,gI1,gW1,gP2,gF2,gI2,gW2,gP3,gF3,gI3,gW3,cwa0,cwb0,bwa0,bwb0,b1,b2,b3,b4,b5,b6,bl,bi,bp,bs,AM.sameO_some,cl,c1,c2,c3,c4,c5,c6,e3,e4,e5,e7,gT,x1,x2,x5]
  refine AM.trCall_of (rAnd (a := [i.a]) (b := [((objF p f.slots i.b true).2.2.headD 0)]) ⟨va0,ka0,rfl,Wa0,Wb0⟩ (by simp) (by simp) i.c 0) ?_
  rintro r hm3_1 ⟨fm3_1,wr,rfl,W1⟩
  replace W1 : WantR hm3_1 wr [i.a,i.c] [((objF p f.slots i.b true).2.2.headD 0), 0] := W1
  obtain ⟨va1,ka1,rfl,Wa1,Wb1⟩ := W1
  have cwa1 := SlIn.cellv Wa1
  have cwb1 := SlIn.cellv Wb1
  have bwa1 := SlIn.beqv Wa1
  have bwb1 := SlIn.beqv Wb1
  have n4 : h.n + 4 ≤ hm3_1.n := by have := fm3_1.n; omega
  have gP4 : hm3_1.get (h.n) = .cells 0 false [tv,gv,fv] := (fm3_1.get _ (by omega) (by simp)).trans gP3
  have gF4 : hm3_1.get (h.n + 1) = .cells 0 false [.int .i64 f.params,sv,rv,cv] := (fm3_1.get _ (by omega) (by simp)).trans gF3
  have gI4 : hm3_1.get (h.n + 1 + 1) = .cells 0 false [.int .i64 i.op, .int .i64 i.a, .int .i64 i.b, .int .i64 i.c, .int .u64 i.imm,lv] := (fm3_1.get _ (by omega) (by simp)).trans gI3
  have gW4 : hm3_1.get (h.n + 1 + 1 + 1) = .cells 0 false [.nils, .nils] := (fm3_1.get _ (by omega) (by simp)).trans gW3
  have f04 := f03.trans fm3_1
  simp -implicitDefEqProofs (disch := first|decide|assumption|omega|(simp -implicitDefEqProofs only [AM.RN];first|done|omega)|fail) only [↓AM.R0,AM.R1,AM.R2,Nat.reduceAdd,Nat.reduceLeDiff,Nat.reduceEqDiff,Int.reduceToNat,Nat.reduceLT,↓reduceIte,Int.reduceEq,Int.reduceLT,Int.reduceLE,gP0,gF0,gI0,gW0,gP1,gF1,gI1,gW1,gP2,gF2,gI2,gW2,gP3,gF3,gI3,gW3,gP4,gF4,gI4,gW4,cwa0,cwb0,bwa0,bwb0,cwa1,cwb1,bwa1,bwb1,b1,b2,b3,b4,b5,b6,bl,bi,bp,bs,AM.sameO_some,cl,c1,c2,c3,c4,c5,c6,e3,e4,e5,e7,gT,x1,x2,x5]
  refine AM.trCall_of (rMet (F0.keep f04) (l := [(i.a, ((objF p f.slots i.b true).2.2.headD 0)), (i.c,0)]) ⟨va1,ka1,rfl,Wa1,Wb1⟩ (by simp)) ?_
  rintro r hm4_9 ⟨fm4_9,rfl⟩
  have n5 : h.n + 4 ≤ hm4_9.n := by have := fm4_9.n; omega
  have gP5 : hm4_9.get (h.n) = .cells 0 false [tv,gv,fv] := (fm4_9.get _ (by omega) (by simp)).trans gP4
  have gF5 : hm4_9.get (h.n + 1) = .cells 0 false [.int .i64 f.params,sv,rv,cv] := (fm4_9.get _ (by omega) (by simp)).trans gF4
  have gI5 : hm4_9.get (h.n + 1 + 1) = .cells 0 false [.int .i64 i.op, .int .i64 i.a, .int .i64 i.b, .int .i64 i.c, .int .u64 i.imm,lv] := (fm4_9.get _ (by omega) (by simp)).trans gI4
  have gW5 : hm4_9.get (h.n + 1 + 1 + 1) = .cells 0 false [.nils, .nils] := (fm4_9.get _ (by omega) (by simp)).trans gW4
  have f05 := f04.trans fm4_9
  simp -implicitDefEqProofs (disch := first|decide|assumption|omega|(simp -implicitDefEqProofs only [AM.RN];first|done|omega)|fail) only [↓AM.R0,AM.R1,AM.R2,Nat.reduceAdd,Nat.reduceLeDiff,Nat.reduceEqDiff,Int.reduceToNat,Nat.reduceLT,↓reduceIte,Int.reduceEq,Int.reduceLT,Int.reduceLE,gP0,gF0,gI0,gW0,gP1,gF1,gI1,gW1,gP2,gF2,gI2,gW2,gP3,gF3,gI3,gW3,gP4,gF4,gI4,gW4,gP5,gF5,gI5,gW5,cwa0,cwb0,bwa0,bwb0,cwa1,cwb1,bwa1,bwb1,b1,b2,b3,b4,b5,b6,bl,bi,bp,bs,AM.sameO_some,cl,c1,c2,c3,c4,c5,c6,e3,e4,e5,e7,gT,x1,x2,x5]
  subst hQ
  exact ⟨f05,rfl⟩
end Go.Proofs.Ytofcnjglnnoimaa.Vf
