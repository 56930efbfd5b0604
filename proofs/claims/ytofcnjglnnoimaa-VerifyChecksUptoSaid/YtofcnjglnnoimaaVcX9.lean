/-
 What the functions of this seat do,on the machine: lemmas for the laws.
-/
import Derived.Test.YtofcnjglnnoimaaVcX5
import Derived.Test.YtofcnjglnnoimaaVcX8
namespace Go.Proofs.Ytofcnjglnnoimaa.Vf
open Go Go.AM Go.Proofs.Ytofcnjglnnoimaa.AmGW
attribute [local irreducible] AM.wp AM.wpIs AM.wpTr AM.opI AM.gI AM.cI AM.trI AM.callI AM.fnI AM.trG AM.trOp AM.trCall AM.seqC AM.loopI
set_option maxRecDepth 100000
set_option linter.unusedVariables false
set_option linter.unusedSimpArgs false
theorem alike1F (sl : List Int) (is : Int → Bool) (a : Int) : alikeF sl is [a] = if (slotK sl a).isSome = false then 11 else if is ((slotK sl a).getD 0) = false then 10 else 0 := by
 unfold alikeF
 cases h : slotK sl a with
 | none => simp [h]
 | some x => simp [h]
theorem alike2F (sl : List Int) (is : Int → Bool) (a b : Int) : alikeF sl is [a,b] = if ((slotK sl a).isSome && (slotK sl b).isSome) = false then 11 else if (decide ((slotK sl a).getD 0 = (slotK sl b).getD 0) && is ((slotK sl a).getD 0)) = false then 10 else 0 := by
 unfold alikeF
 cases h : slotK sl a with
 | none => simp [h]
 | some x =>
  cases h2 : slotK sl b with
  | none => simp [h,h2]
  | some y =>
   by_cases e : x = y
   ·subst e; simp [h,h2]
   ·have : ¬ y = x := fun q => e q.symm
    simp [h,h2,e,this]
set_option maxHeartbeats 8000000 in
theorem rOther {h : AHeap} {p : PProg} {f : PFunc} {i : PIns} {prow frow row : List AVal} (P : ProgR h p prow) (F : FuncR h f frow) (R : InsR h i row) (H : Hs p f.slots) (T : Ht p) (hT : p.types.length ≤ 32) (HP : Hp p) (hl : i.list.length ≤ 24) (hop : orB i.op [1,2,23,24,25,26,27,28,29,30,31,32,33,34,35,36,37,38,41,42,43,44,45,48] = true) :
  CallP AP 66 [.agg prow, .agg frow, .agg row] h fun r h' => HFrame h h' [] [] ∧ r = .int .i64 (bodyF p f i) := by
 have F0 := F
 have P0 := P
 have R0 := R
 obtain ⟨sv,rv,cv,rfl,s4,s5,s6⟩ := F
 obtain ⟨tv,gv,fv,rfl,RT,RG,RF⟩ := P
 obtain ⟨hi,lv,rfl,L⟩ := R
 refine callP (rfl : Tr.get AP 66 = some A66) ?_
 generalize hQ : (fun (r : AVal) (h' : AHeap) => _) = Q
 have cl := SlIn.cellv L
 have bl := SlIn.beqv L
 have c1 := SlIn.cellv s4
 have c2 := SlIn.cellv s5
 have c3 := SlR.cellv s6
 have c4 := SlR.cellv RT
 have c5 := SlIn.cellv RG
 have c6 := SlR.cellv RF
 have b1 := SlIn.beqv s4
 have b2 := SlIn.beqv s5
 have b3 := SlR.beqv s6
 have b4 := SlR.beqv RT
 have b5 := SlIn.beqv RG
 have b6 := SlR.beqv RF
 simp only [orB,List.any_cons,List.any_nil,Bool.or_false,Bool.or_eq_true,decide_eq_true_eq] at hop
 have bi : ∀ (k : IntKind) (n : Int), (AVal.int k n).beq (.int k n) = true := fun k n => by simp [AVal.beq]
 have bp : ∀ a b c, (AVal.ptr a b c).beq (.ptr a b c) = true := fun a b c => by simp [AVal.beq]
 have bs : ∀ a b c d e, (AVal.sl a b c d e).beq (AVal.sl a b c d e) = true := AM.beq_sl
 have f0 := ((((HFrame.refl (h := h) (F := []) (by simp)).pushTmp (.cells 0 false [tv,gv,fv])).pushTmp (.cells 0 false [.int .i64 f.params,sv,rv,cv])).pushTmp (.cells 0 false [.int .i64 i.op, .int .i64 i.a, .int .i64 i.b, .int .i64 i.c, .int .u64 i.imm,lv]))
 obtain ⟨hA,hhA⟩ : ∃ hA,hA = (((h.push (.cells 0 false [tv,gv,fv])).push (.cells 0 false [.int .i64 f.params,sv,rv,cv])).push (.cells 0 false [.int .i64 i.op, .int .i64 i.a, .int .i64 i.b, .int .i64 i.c, .int .u64 i.imm,lv])) := ⟨_,rfl⟩
 have gP0 : hA.get (h.n) = .cells 0 false [tv,gv,fv] := by rw [hhA]; simp -implicitDefEqProofs (disch := first|decide|assumption|omega|(simp -implicitDefEqProofs only [AM.RN];first|done|omega)|fail) only [↓AM.R0,AM.R1,AM.R2,Nat.reduceAdd,Nat.reduceLeDiff,Nat.reduceEqDiff,Int.reduceToNat,Nat.reduceLT,↓reduceIte,Int.reduceEq,Int.reduceLT,Int.reduceLE]
 have gF0 : hA.get (h.n + 1) = .cells 0 false [.int .i64 f.params,sv,rv,cv] := by rw [hhA]; simp -implicitDefEqProofs (disch := first|decide|assumption|omega|(simp -implicitDefEqProofs only [AM.RN];first|done|omega)|fail) only [↓AM.R0,AM.R1,AM.R2,Nat.reduceAdd,Nat.reduceLeDiff,Nat.reduceEqDiff,Int.reduceToNat,Nat.reduceLT,↓reduceIte,Int.reduceEq,Int.reduceLT,Int.reduceLE]
 have gI0 : hA.get (h.n + 1 + 1) = .cells 0 false [.int .i64 i.op, .int .i64 i.a, .int .i64 i.b, .int .i64 i.c, .int .u64 i.imm,lv] := by rw [hhA]; simp -implicitDefEqProofs (disch := first|decide|assumption|omega|(simp -implicitDefEqProofs only [AM.RN];first|done|omega)|fail) only [↓AM.R0,AM.R1,AM.R2,Nat.reduceAdd,Nat.reduceLeDiff,Nat.reduceEqDiff,Int.reduceToNat,Nat.reduceLT,↓reduceIte,Int.reduceEq,Int.reduceLT,Int.reduceLE]
 have n0 : h.n + 3 ≤ hA.n := by rw [hhA]; simp
 simp -implicitDefEqProofs (disch := first|decide|assumption|omega|(simp -implicitDefEqProofs only [AM.RN];first|done|omega)|fail) only [↓AM.R0,AM.R1,AM.R2,Nat.reduceAdd,Nat.reduceLeDiff,Nat.reduceEqDiff,Int.reduceToNat,Nat.reduceLT,↓reduceIte,Int.reduceEq,Int.reduceLT,Int.reduceLE,cl,c1,c2,c3,c4,c5,c6]
 rw [← hhA] at f0 ⊢
 clear hhA
 refine AM.callI_of (rKindOf (F0.keep f0) i.a) ?_
 rintro r h1 ⟨f1,rfl⟩
 have n1 : h.n + 3 ≤ h1.n := by have := f1.n; omega
 have gP1 : h1.get (h.n) = .cells 0 false [tv,gv,fv] := (f1.get _ (by omega) (by simp)).trans gP0
 have gF1 : h1.get (h.n + 1) = .cells 0 false [.int .i64 f.params,sv,rv,cv] := (f1.get _ (by omega) (by simp)).trans gF0
 have gI1 : h1.get (h.n + 1 + 1) = .cells 0 false [.int .i64 i.op, .int .i64 i.a, .int .i64 i.b, .int .i64 i.c, .int .u64 i.imm,lv] := (f1.get _ (by omega) (by simp)).trans gI0
 have f01 := f0.trans f1
 simp -implicitDefEqProofs (disch := first|decide|assumption|omega|(simp -implicitDefEqProofs only [AM.RN];first|done|omega)|fail) only [↓AM.R0,AM.R1,AM.R2,Nat.reduceAdd,Nat.reduceLeDiff,Nat.reduceEqDiff,Int.reduceToNat,Nat.reduceLT,↓reduceIte,Int.reduceEq,Int.reduceLT,Int.reduceLE,gP1,gF1,gI1,c1,c2,c3]
 refine AM.callI_of (rKindOf (F0.keep f01) i.b) ?_
 rintro r h2 ⟨f2,rfl⟩
 have n2 : h.n + 3 ≤ h2.n := by have := f2.n; omega
 have gP2 : h2.get (h.n) = .cells 0 false [tv,gv,fv] := (f2.get _ (by omega) (by simp)).trans gP1
 have gF2 : h2.get (h.n + 1) = .cells 0 false [.int .i64 f.params,sv,rv,cv] := (f2.get _ (by omega) (by simp)).trans gF1
 have gI2 : h2.get (h.n + 1 + 1) = .cells 0 false [.int .i64 i.op, .int .i64 i.a, .int .i64 i.b, .int .i64 i.c, .int .u64 i.imm,lv] := (f2.get _ (by omega) (by simp)).trans gI1
 have f02 := f01.trans f2
 simp -implicitDefEqProofs (disch := first|decide|assumption|omega|(simp -implicitDefEqProofs only [AM.RN];first|done|omega)|fail) only [↓AM.R0,AM.R1,AM.R2,Nat.reduceAdd,Nat.reduceLeDiff,Nat.reduceEqDiff,Int.reduceToNat,Nat.reduceLT,↓reduceIte,Int.reduceEq,Int.reduceLT,Int.reduceLE,gP2,gF2,gI2,c1,c2,c3]
 refine AM.callI_of (rKindOf (F0.keep f02) i.c) ?_
 rintro r h3 ⟨f3,rfl⟩
 have n3 : h.n + 3 ≤ h3.n := by have := f3.n; omega
 have gP3 : h3.get (h.n) = .cells 0 false [tv,gv,fv] := (f3.get _ (by omega) (by simp)).trans gP2
 have gF3 : h3.get (h.n + 1) = .cells 0 false [.int .i64 f.params,sv,rv,cv] := (f3.get _ (by omega) (by simp)).trans gF2
 have gI3 : h3.get (h.n + 1 + 1) = .cells 0 false [.int .i64 i.op, .int .i64 i.a, .int .i64 i.b, .int .i64 i.c, .int .u64 i.imm,lv] := (f3.get _ (by omega) (by simp)).trans gI2
 have f03 := f02.trans f3
 simp -implicitDefEqProofs (disch := first|decide|assumption|omega|(simp -implicitDefEqProofs only [AM.RN];first|done|omega)|fail) only [↓AM.R0,AM.R1,AM.R2,Nat.reduceAdd,Nat.reduceLeDiff,Nat.reduceEqDiff,Int.reduceToNat,Nat.reduceLT,↓reduceIte,Int.reduceEq,Int.reduceLT,Int.reduceLE,gP3,gF3,gI3,c1,c2,c3]
 have fV := (HFrame.refl (h := h3) (F := []) (by simp)).pushTmp (.cells 0 false [.nils, .nils])
 have gV : (h3.push (.cells 0 false [.nils, .nils])).get h3.n = .cells 0 false [.nils, .nils] := AHeap.get_push_same _ _
 have nV : (h3.push (.cells 0 false [.nils, .nils])).n = h3.n + 1 := by simp
 have lV : h3.n < (h3.push (.cells 0 false [.nils, .nils])).n := by simp
 obtain ⟨hV,hhV⟩ : ∃ hV,hV = h3.push (.cells 0 false [.nils, .nils]) := ⟨_,rfl⟩
 rw [← hhV] at fV gV nV lV
 try rw [← hhV]
 clear hhV
 have n4 : h.n + 3 ≤ hV.n := by have := fV.n; omega
 have gP4 : hV.get (h.n) = .cells 0 false [tv,gv,fv] := (fV.get _ (by omega) (by simp)).trans gP3
 have gF4 : hV.get (h.n + 1) = .cells 0 false [.int .i64 f.params,sv,rv,cv] := (fV.get _ (by omega) (by simp)).trans gF3
 have gI4 : hV.get (h.n + 1 + 1) = .cells 0 false [.int .i64 i.op, .int .i64 i.a, .int .i64 i.b, .int .i64 i.c, .int .u64 i.imm,lv] := (fV.get _ (by omega) (by simp)).trans gI3
 have f04 := f03.trans fV
 refine cI_or (t := 38) (s := 37) (x := i.op) (by decide) [(40,48)] (by simp -implicitDefEqProofs (disch := first|decide|assumption|omega|(simp -implicitDefEqProofs only [AM.RN];first|done|omega)|fail) only [↓AM.R0,AM.R1,AM.R2,Nat.reduceAdd,Nat.reduceLeDiff,Nat.reduceEqDiff,Int.reduceToNat,Nat.reduceLT,↓reduceIte,Int.reduceEq,Int.reduceLT,Int.reduceLE,gP4,gF4,gI4]) (by simp -implicitDefEqProofs (disch := first|decide|assumption|omega|(simp -implicitDefEqProofs only [AM.RN];first|done|omega)|fail) only [↓AM.R0,AM.R1,AM.R2,Nat.reduceAdd,Nat.reduceLeDiff,Nat.reduceEqDiff,Int.reduceToNat,Nat.reduceLT,↓reduceIte,Int.reduceEq,Int.reduceLT,Int.reduceLE,gP4,gF4,gI4]) (by decide) ?_
 intro e' ht hk
 have e3' : Env.val e' 3 = .ptr h.n 0 0 := (hk 3 (by decide) (by decide)).trans (by simp -implicitDefEqProofs (disch := first|decide|assumption|omega|(simp -implicitDefEqProofs only [AM.RN];first|done|omega)|fail) only [↓AM.R0,AM.R1,AM.R2,Nat.reduceAdd,Nat.reduceLeDiff,Nat.reduceEqDiff,Int.reduceToNat,Nat.reduceLT,↓reduceIte,Int.reduceEq,Int.reduceLT,Int.reduceLE,gP4,gF4,gI4])
 have e4' : Env.val e' 4 = .ptr (h.n + 1) 0 0 := (hk 4 (by decide) (by decide)).trans (by simp -implicitDefEqProofs (disch := first|decide|assumption|omega|(simp -implicitDefEqProofs only [AM.RN];first|done|omega)|fail) only [↓AM.R0,AM.R1,AM.R2,Nat.reduceAdd,Nat.reduceLeDiff,Nat.reduceEqDiff,Int.reduceToNat,Nat.reduceLT,↓reduceIte,Int.reduceEq,Int.reduceLT,Int.reduceLE,gP4,gF4,gI4])
 have e5' : Env.val e' 5 = .ptr (h.n + 1 + 1) 0 0 := (hk 5 (by decide) (by decide)).trans (by simp -implicitDefEqProofs (disch := first|decide|assumption|omega|(simp -implicitDefEqProofs only [AM.RN];first|done|omega)|fail) only [↓AM.R0,AM.R1,AM.R2,Nat.reduceAdd,Nat.reduceLeDiff,Nat.reduceEqDiff,Int.reduceToNat,Nat.reduceLT,↓reduceIte,Int.reduceEq,Int.reduceLT,Int.reduceLE,gP4,gF4,gI4])
 have e7' : Env.val e' 7 = .int .i64 ((slotK f.slots i.a).getD 0) := (hk 7 (by decide) (by decide)).trans (by simp -implicitDefEqProofs (disch := first|decide|assumption|omega|(simp -implicitDefEqProofs only [AM.RN];first|done|omega)|fail) only [↓AM.R0,AM.R1,AM.R2,Nat.reduceAdd,Nat.reduceLeDiff,Nat.reduceEqDiff,Int.reduceToNat,Nat.reduceLT,↓reduceIte,Int.reduceEq,Int.reduceLT,Int.reduceLE,gP4,gF4,gI4])
 have e8' : Env.val e' 8 = .bool (slotK f.slots i.a).isSome := (hk 8 (by decide) (by decide)).trans (by simp -implicitDefEqProofs (disch := first|decide|assumption|omega|(simp -implicitDefEqProofs only [AM.RN];first|done|omega)|fail) only [↓AM.R0,AM.R1,AM.R2,Nat.reduceAdd,Nat.reduceLeDiff,Nat.reduceEqDiff,Int.reduceToNat,Nat.reduceLT,↓reduceIte,Int.reduceEq,Int.reduceLT,Int.reduceLE,gP4,gF4,gI4])
 have e9' : Env.val e' 9 = .int .i64 ((slotK f.slots i.b).getD 0) := (hk 9 (by decide) (by decide)).trans (by simp -implicitDefEqProofs (disch := first|decide|assumption|omega|(simp -implicitDefEqProofs only [AM.RN];first|done|omega)|fail) only [↓AM.R0,AM.R1,AM.R2,Nat.reduceAdd,Nat.reduceLeDiff,Nat.reduceEqDiff,Int.reduceToNat,Nat.reduceLT,↓reduceIte,Int.reduceEq,Int.reduceLT,Int.reduceLE,gP4,gF4,gI4])
 have e10' : Env.val e' 10 = .bool (slotK f.slots i.b).isSome := (hk 10 (by decide) (by decide)).trans (by simp -implicitDefEqProofs (disch := first|decide|assumption|omega|(simp -implicitDefEqProofs only [AM.RN];first|done|omega)|fail) only [↓AM.R0,AM.R1,AM.R2,Nat.reduceAdd,Nat.reduceLeDiff,Nat.reduceEqDiff,Int.reduceToNat,Nat.reduceLT,↓reduceIte,Int.reduceEq,Int.reduceLT,Int.reduceLE,gP4,gF4,gI4])
 have e11' : Env.val e' 11 = .int .i64 ((slotK f.slots i.c).getD 0) := (hk 11 (by decide) (by decide)).trans (by simp -implicitDefEqProofs (disch := first|decide|assumption|omega|(simp -implicitDefEqProofs only [AM.RN];first|done|omega)|fail) only [↓AM.R0,AM.R1,AM.R2,Nat.reduceAdd,Nat.reduceLeDiff,Nat.reduceEqDiff,Int.reduceToNat,Nat.reduceLT,↓reduceIte,Int.reduceEq,Int.reduceLT,Int.reduceLE,gP4,gF4,gI4])
 have e12' : Env.val e' 12 = .bool (slotK f.slots i.c).isSome := (hk 12 (by decide) (by decide)).trans (by simp -implicitDefEqProofs (disch := first|decide|assumption|omega|(simp -implicitDefEqProofs only [AM.RN];first|done|omega)|fail) only [↓AM.R0,AM.R1,AM.R2,Nat.reduceAdd,Nat.reduceLeDiff,Nat.reduceEqDiff,Int.reduceToNat,Nat.reduceLT,↓reduceIte,Int.reduceEq,Int.reduceLT,Int.reduceLE,gP4,gF4,gI4])
 have e13' : Env.val e' 13 = .ptr h3.n 0 0 := (hk 13 (by decide) (by decide)).trans (by simp -implicitDefEqProofs (disch := first|decide|assumption|omega|(simp -implicitDefEqProofs only [AM.RN];first|done|omega)|fail) only [↓AM.R0,AM.R1,AM.R2,Nat.reduceAdd,Nat.reduceLeDiff,Nat.reduceEqDiff,Int.reduceToNat,Nat.reduceLT,↓reduceIte,Int.reduceEq,Int.reduceLT,Int.reduceLE,gP4,gF4,gI4])
 have e37' : Env.val e' 37 = .int .i64 i.op := (hk 37 (by decide) (by decide)).trans (by simp -implicitDefEqProofs (disch := first|decide|assumption|omega|(simp -implicitDefEqProofs only [AM.RN];first|done|omega)|fail) only [↓AM.R0,AM.R1,AM.R2,Nat.reduceAdd,Nat.reduceLeDiff,Nat.reduceEqDiff,Int.reduceToNat,Nat.reduceLT,↓reduceIte,Int.reduceEq,Int.reduceLT,Int.reduceLE,gP4,gF4,gI4])
 clear hk
 try clear e3
 have e3 := e3'
 clear e3'
 try clear e4
 have e4 := e4'
 clear e4'
 try clear e5
 have e5 := e5'
 clear e5'
 try clear e7
 have e7 := e7'
 clear e7'
 try clear e8
 have e8 := e8'
 clear e8'
 try clear e9
 have e9 := e9'
 clear e9'
 try clear e10
 have e10 := e10'
 clear e10'
 try clear e11
 have e11 := e11'
 clear e11'
 try clear e12
 have e12 := e12'
 clear e12'
 try clear e13
 have e13 := e13'
 clear e13'
 try clear e37
 have e37 := e37'
 clear e37'
 simp -implicitDefEqProofs (disch := first|decide|assumption|omega|(simp -implicitDefEqProofs only [AM.RN];first|done|omega)|fail) only [↓AM.R0,AM.R1,AM.R2,Nat.reduceAdd,Nat.reduceLeDiff,Nat.reduceEqDiff,Int.reduceToNat,Nat.reduceLT,↓reduceIte,Int.reduceEq,Int.reduceLT,Int.reduceLE,ht]
 refine AM.cI_bool (fun hb => ?_) (fun hb => ?_)
 ·have m : orB i.op [1,48] = true := hb
  clear hb ht
  have hm := alike1F f.slots (fun k => decide (k = 0) || decide (k = 1)) i.a
  rw [show bodyF p f i = alikeF f.slots (fun k => decide (k = 0) || decide (k = 1)) [i.a] by rw [bodyF,if_pos m],hm] at hQ
  clear hm
  simp -implicitDefEqProofs (disch := first|decide|assumption|omega|(simp -implicitDefEqProofs only [AM.RN];first|done|omega)|fail) only [↓AM.R0,AM.R1,AM.R2,Nat.reduceAdd,Nat.reduceLeDiff,Nat.reduceEqDiff,Int.reduceToNat,Nat.reduceLT,↓reduceIte,Int.reduceEq,Int.reduceLT,Int.reduceLE,e7,e8]
  refine AM.cI_bool (fun hc => ?_) (fun hc => ?_)
  ·simp -implicitDefEqProofs (disch := first|decide|assumption|omega|(simp -implicitDefEqProofs only [AM.RN];first|done|omega)|fail) only [↓AM.R0,AM.R1,AM.R2,Nat.reduceAdd,Nat.reduceLeDiff,Nat.reduceEqDiff,Int.reduceToNat,Nat.reduceLT,↓reduceIte,Int.reduceEq,Int.reduceLT,Int.reduceLE]
   subst hQ
   exact ⟨f04,by rw [if_pos (by simpa using hc)]⟩
  have hc' : ¬ (slotK f.slots i.a).isSome = false := by revert hc; cases (slotK f.slots i.a).isSome <;> simp
  simp -implicitDefEqProofs (disch := first|decide|assumption|omega|(simp -implicitDefEqProofs only [AM.RN];first|done|omega)|fail) only [AM.RGB,↓AM.R0,AM.R1,AM.R2,Nat.reduceAdd,Nat.reduceLeDiff,Nat.reduceEqDiff,Int.reduceToNat,Nat.reduceLT,↓reduceIte,Int.reduceEq,Int.reduceLT,Int.reduceLE,e7]
  refine AM.cI_bool (fun hd => ?_) (fun hd => ?_)
  ·simp -implicitDefEqProofs (disch := first|decide|assumption|omega|(simp -implicitDefEqProofs only [AM.RN];first|done|omega)|fail) only [↓AM.R0,AM.R1,AM.R2,Nat.reduceAdd,Nat.reduceLeDiff,Nat.reduceEqDiff,Int.reduceToNat,Nat.reduceLT,↓reduceIte,Int.reduceEq,Int.reduceLT,Int.reduceLE]
   subst hQ
   exact ⟨f04,by rw [if_neg hc', if_pos (by simpa using hd)]⟩
  ·simp -implicitDefEqProofs (disch := first|decide|assumption|omega|(simp -implicitDefEqProofs only [AM.RN];first|done|omega)|fail) only [↓AM.R0,AM.R1,AM.R2,Nat.reduceAdd,Nat.reduceLeDiff,Nat.reduceEqDiff,Int.reduceToNat,Nat.reduceLT,↓reduceIte,Int.reduceEq,Int.reduceLT,Int.reduceLE]
   subst hQ
   refine ⟨f04, ?_⟩
   rw [if_neg hc', if_neg]
   intro hq
   rw [Bool.or_eq_false_iff] at hq
   rw [hq.1,hq.2] at hd
   cases hd
 have m1 : orB i.op [1,48] = false := hb
 clear hb ht
 simp -implicitDefEqProofs (disch := first|decide|assumption|omega|(simp -implicitDefEqProofs only [AM.RN];first|done|omega)|fail) only [↓AM.R0,AM.R1,AM.R2,Nat.reduceAdd,Nat.reduceLeDiff,Nat.reduceEqDiff,Int.reduceToNat,Nat.reduceLT,↓reduceIte,Int.reduceEq,Int.reduceLT,Int.reduceLE,e37]
 refine AM.cI_bool (fun hb => ?_) (fun hb => ?_)
 ·have hb : i.op = 2 := by simpa using hb
  rw [show bodyF p f i = alikeF f.slots (fun _ => true) [i.a,i.b] by unfold bodyF; rw [hb]; rfl,alike2F] at hQ
  simp -implicitDefEqProofs (disch := first|decide|assumption|omega|(simp -implicitDefEqProofs only [AM.RN];first|done|omega)|fail) only [AM.RGB,↓AM.R0,AM.R1,AM.R2,Nat.reduceAdd,Nat.reduceLeDiff,Nat.reduceEqDiff,Int.reduceToNat,Nat.reduceLT,↓reduceIte,Int.reduceEq,Int.reduceLT,Int.reduceLE,e8,e10]
  refine AM.cI_bool (fun hc => ?_) (fun hc => ?_)
  ·simp -implicitDefEqProofs (disch := first|decide|assumption|omega|(simp -implicitDefEqProofs only [AM.RN];first|done|omega)|fail) only [↓AM.R0,AM.R1,AM.R2,Nat.reduceAdd,Nat.reduceLeDiff,Nat.reduceEqDiff,Int.reduceToNat,Nat.reduceLT,↓reduceIte,Int.reduceEq,Int.reduceLT,Int.reduceLE]
   subst hQ
   exact ⟨f04,by rw [if_pos (by revert hc; cases (slotK f.slots i.a).isSome <;> cases (slotK f.slots i.b).isSome <;> simp)]⟩
  simp -implicitDefEqProofs (disch := first|decide|assumption|omega|(simp -implicitDefEqProofs only [AM.RN];first|done|omega)|fail) only [↓AM.R0,AM.R1,AM.R2,Nat.reduceAdd,Nat.reduceLeDiff,Nat.reduceEqDiff,Int.reduceToNat,Nat.reduceLT,↓reduceIte,Int.reduceEq,Int.reduceLT,Int.reduceLE,e7,e9]
  have hc' : ¬ ((slotK f.slots i.a).isSome && (slotK f.slots i.b).isSome) = false := by revert hc; cases (slotK f.slots i.a).isSome <;> cases (slotK f.slots i.b).isSome <;> simp
  refine AM.cI_bool (fun hd => ?_) (fun hd => ?_)
  ·simp -implicitDefEqProofs (disch := first|decide|assumption|omega|(simp -implicitDefEqProofs only [AM.RN];first|done|omega)|fail) only [↓AM.R0,AM.R1,AM.R2,Nat.reduceAdd,Nat.reduceLeDiff,Nat.reduceEqDiff,Int.reduceToNat,Nat.reduceLT,↓reduceIte,Int.reduceEq,Int.reduceLT,Int.reduceLE]
   subst hQ
   exact ⟨f04,by rw [if_neg hc', if_pos (by simpa using hd)]⟩
  ·simp -implicitDefEqProofs (disch := first|decide|assumption|omega|(simp -implicitDefEqProofs only [AM.RN];first|done|omega)|fail) only [↓AM.R0,AM.R1,AM.R2,Nat.reduceAdd,Nat.reduceLeDiff,Nat.reduceEqDiff,Int.reduceToNat,Nat.reduceLT,↓reduceIte,Int.reduceEq,Int.reduceLT,Int.reduceLE]
   subst hQ
   exact ⟨f04,by rw [if_neg hc', if_neg (by simpa using hd)]⟩
 have m2 := of_decide_eq_false hb
 clear hb
 simp -implicitDefEqProofs (disch := first|decide|assumption|omega|(simp -implicitDefEqProofs only [AM.RN];first|done|omega)|fail) only [↓AM.R0,AM.R1,AM.R2,Nat.reduceAdd,Nat.reduceLeDiff,Nat.reduceEqDiff,Int.reduceToNat,Nat.reduceLT,↓reduceIte,Int.reduceEq,Int.reduceLT,Int.reduceLE,e37]
 refine AM.cI_bool (fun hb => ?_) (fun hb => ?_)
 ·have hb : i.op = 23 := by simpa using hb
  rw [show bodyF p f i = (if areF f.slots [(i.a,0)] ≠ 0 then areF f.slots [(i.a,0)] else alikeF f.slots (fun k => decide (16 ≤ k)) [i.b,i.c]) by unfold bodyF; rw [hb]; rfl,alike2F] at hQ
  simp -implicitDefEqProofs (disch := first|decide|assumption|omega|(simp -implicitDefEqProofs only [AM.RN];first|done|omega)|fail) only [↓AM.R0,AM.R1,AM.R2,Nat.reduceAdd,Nat.reduceLeDiff,Nat.reduceEqDiff,Int.reduceToNat,Nat.reduceLT,↓reduceIte,Int.reduceEq,Int.reduceLT,Int.reduceLE,e3,e4,e5,e13,gF4,gI4,gV,c1,c2,c3]
  refine AM.trCall_of (rAnd (a := []) (b := []) nilW (by simp) (by simp) i.a 0) ?_
  rintro r hm4_0 ⟨fm4_0,wr,rfl,W0⟩
  replace W0 : WantR hm4_0 wr [i.a] [0] := W0
  obtain ⟨va0,ka0,rfl,Wa0,Wb0⟩ := W0
  have cwa0 := SlIn.cellv Wa0
  have cwb0 := SlIn.cellv Wb0
  have bwa0 := SlIn.beqv Wa0
  have bwb0 := SlIn.beqv Wb0
  have n5 : h.n + 3 ≤ hm4_0.n := by have := fm4_0.n; omega
  have gP5 : hm4_0.get (h.n) = .cells 0 false [tv,gv,fv] := (fm4_0.get _ (by omega) (by simp)).trans gP4
  have gF5 : hm4_0.get (h.n + 1) = .cells 0 false [.int .i64 f.params,sv,rv,cv] := (fm4_0.get _ (by omega) (by simp)).trans gF4
  have gI5 : hm4_0.get (h.n + 1 + 1) = .cells 0 false [.int .i64 i.op, .int .i64 i.a, .int .i64 i.b, .int .i64 i.c, .int .u64 i.imm,lv] := (fm4_0.get _ (by omega) (by simp)).trans gI4
  have f05 := f04.trans fm4_0
  simp -implicitDefEqProofs (disch := first|decide|assumption|omega|(simp -implicitDefEqProofs only [AM.RN];first|done|omega)|fail) only [↓AM.R0,AM.R1,AM.R2,Nat.reduceAdd,Nat.reduceLeDiff,Nat.reduceEqDiff,Int.reduceToNat,Nat.reduceLT,↓reduceIte,Int.reduceEq,Int.reduceLT,Int.reduceLE,gP4,gF4,gI4,gP5,gF5,gI5,cwa0,cwb0,bwa0,bwb0,b1,b2,b3,b4,b5,b6,bl,bi,bp,bs,AM.sameO_some,cl,c1,c2,c3,c4,c5,c6,e3,e4,e5,e13,e7,e8,e9,e10,e11,e12,gV]
  refine AM.trCall_of (rMet (F0.keep f05) (l := [(i.a,0)]) ⟨va0,ka0,rfl,Wa0,Wb0⟩ (by simp)) ?_
  rintro r hm5_9 ⟨fm5_9,rfl⟩
  have n6 : h.n + 3 ≤ hm5_9.n := by have := fm5_9.n; omega
  have gP6 : hm5_9.get (h.n) = .cells 0 false [tv,gv,fv] := (fm5_9.get _ (by omega) (by simp)).trans gP5
  have gF6 : hm5_9.get (h.n + 1) = .cells 0 false [.int .i64 f.params,sv,rv,cv] := (fm5_9.get _ (by omega) (by simp)).trans gF5
  have gI6 : hm5_9.get (h.n + 1 + 1) = .cells 0 false [.int .i64 i.op, .int .i64 i.a, .int .i64 i.b, .int .i64 i.c, .int .u64 i.imm,lv] := (fm5_9.get _ (by omega) (by simp)).trans gI5
  have f06 := f05.trans fm5_9
  simp -implicitDefEqProofs (disch := first|decide|assumption|omega|(simp -implicitDefEqProofs only [AM.RN];first|done|omega)|fail) only [↓AM.R0,AM.R1,AM.R2,Nat.reduceAdd,Nat.reduceLeDiff,Nat.reduceEqDiff,Int.reduceToNat,Nat.reduceLT,↓reduceIte,Int.reduceEq,Int.reduceLT,Int.reduceLE,gP4,gF4,gI4,gP5,gF5,gI5,gP6,gF6,gI6,cwa0,cwb0,bwa0,bwb0,b1,b2,b3,b4,b5,b6,bl,bi,bp,bs,AM.sameO_some,cl,c1,c2,c3,c4,c5,c6,e3,e4,e5,e13,e7,e8,e9,e10,e11,e12,gV]
  refine AM.cI_bool (fun hc => ?_) (fun hc => ?_)
  ·have hc' : areF f.slots [(i.a,0)] ≠ 0 := by simpa using hc
   simp -implicitDefEqProofs (disch := first|decide|assumption|omega|(simp -implicitDefEqProofs only [AM.RN];first|done|omega)|fail) only [↓AM.R0,AM.R1,AM.R2,Nat.reduceAdd,Nat.reduceLeDiff,Nat.reduceEqDiff,Int.reduceToNat,Nat.reduceLT,↓reduceIte,Int.reduceEq,Int.reduceLT,Int.reduceLE]
   subst hQ
   exact ⟨f06,by rw [if_pos hc']⟩
  have hc' : ¬ areF f.slots [(i.a,0)] ≠ 0 := by simpa using hc
  rw [if_neg hc'] at hQ
  simp -implicitDefEqProofs (disch := first|decide|assumption|omega|(simp -implicitDefEqProofs only [AM.RN];first|done|omega)|fail) only [AM.RGB,↓AM.R0,AM.R1,AM.R2,Nat.reduceAdd,Nat.reduceLeDiff,Nat.reduceEqDiff,Int.reduceToNat,Nat.reduceLT,↓reduceIte,Int.reduceEq,Int.reduceLT,Int.reduceLE,e10,e12]
  refine AM.cI_bool (fun hd => ?_) (fun hd => ?_)
  ·simp -implicitDefEqProofs (disch := first|decide|assumption|omega|(simp -implicitDefEqProofs only [AM.RN];first|done|omega)|fail) only [↓AM.R0,AM.R1,AM.R2,Nat.reduceAdd,Nat.reduceLeDiff,Nat.reduceEqDiff,Int.reduceToNat,Nat.reduceLT,↓reduceIte,Int.reduceEq,Int.reduceLT,Int.reduceLE]
   subst hQ
   exact ⟨f06,by rw [if_pos (by revert hd; cases (slotK f.slots i.b).isSome <;> cases (slotK f.slots i.c).isSome <;> simp)]⟩
  have hd' : ¬ ((slotK f.slots i.b).isSome && (slotK f.slots i.c).isSome) = false := by revert hd; cases (slotK f.slots i.b).isSome <;> cases (slotK f.slots i.c).isSome <;> simp
  rw [if_neg hd'] at hQ
  simp -implicitDefEqProofs (disch := first|decide|assumption|omega|(simp -implicitDefEqProofs only [AM.RN];first|done|omega)|fail) only [↓AM.R0,AM.R1,AM.R2,Nat.reduceAdd,Nat.reduceLeDiff,Nat.reduceEqDiff,Int.reduceToNat,Nat.reduceLT,↓reduceIte,Int.reduceEq,Int.reduceLT,Int.reduceLE,e9,e11]
  refine AM.gI_bool (fun hq => ?_) (fun hq => ?_)
  ·simp -implicitDefEqProofs (disch := first|decide|assumption|omega|(simp -implicitDefEqProofs only [AM.RN];first|done|omega)|fail) only [↓AM.R0,AM.R1,AM.R2,Nat.reduceAdd,Nat.reduceLeDiff,Nat.reduceEqDiff,Int.reduceToNat,Nat.reduceLT,↓reduceIte,Int.reduceEq,Int.reduceLT,Int.reduceLE,e9,hq]
   have hq' : (decide ((slotK f.slots i.b).getD 0 = (slotK f.slots i.c).getD 0) && decide (16 ≤ (slotK f.slots i.b).getD 0)) = false := by
    have hq0 : decide ((slotK f.slots i.b).getD 0 = (slotK f.slots i.c).getD 0) = false := by simpa using hq
    rw [hq0,Bool.false_and]
   subst hQ
   exact ⟨f06,by rw [if_pos hq']⟩
  ·have hq0 : decide ((slotK f.slots i.b).getD 0 = (slotK f.slots i.c).getD 0) = true := by simpa using hq
   rw [hq0,Bool.true_and] at hQ
   simp -implicitDefEqProofs (disch := first|decide|assumption|omega|(simp -implicitDefEqProofs only [AM.RN];first|done|omega)|fail) only [↓AM.R0,AM.R1,AM.R2,Nat.reduceAdd,Nat.reduceLeDiff,Nat.reduceEqDiff,Int.reduceToNat,Nat.reduceLT,↓reduceIte,Int.reduceEq,Int.reduceLT,Int.reduceLE,e9,hq]
   refine AM.callI_of (rIsRef _ _) ?_
   rintro r h9 ⟨rfl,rfl⟩
   simp -implicitDefEqProofs (disch := first|decide|assumption|omega|(simp -implicitDefEqProofs only [AM.RN];first|done|omega)|fail) only [↓AM.R0,AM.R1,AM.R2,Nat.reduceAdd,Nat.reduceLeDiff,Nat.reduceEqDiff,Int.reduceToNat,Nat.reduceLT,↓reduceIte,Int.reduceEq,Int.reduceLT,Int.reduceLE,hq]
   refine AM.cI_bool (fun hw => ?_) (fun hw => ?_)
   ·simp -implicitDefEqProofs (disch := first|decide|assumption|omega|(simp -implicitDefEqProofs only [AM.RN];first|done|omega)|fail) only [↓AM.R0,AM.R1,AM.R2,Nat.reduceAdd,Nat.reduceLeDiff,Nat.reduceEqDiff,Int.reduceToNat,Nat.reduceLT,↓reduceIte,Int.reduceEq,Int.reduceLT,Int.reduceLE]
    subst hQ
    exact ⟨f06,by rw [if_pos (by simpa using hw)]⟩
   ·simp -implicitDefEqProofs (disch := first|decide|assumption|omega|(simp -implicitDefEqProofs only [AM.RN];first|done|omega)|fail) only [↓AM.R0,AM.R1,AM.R2,Nat.reduceAdd,Nat.reduceLeDiff,Nat.reduceEqDiff,Int.reduceToNat,Nat.reduceLT,↓reduceIte,Int.reduceEq,Int.reduceLT,Int.reduceLE]
    subst hQ
    exact ⟨f06,by rw [if_neg (by simpa using hw)]⟩
 have m3 := of_decide_eq_false hb
 clear hb
 simp -implicitDefEqProofs (disch := first|decide|assumption|omega|(simp -implicitDefEqProofs only [AM.RN];first|done|omega)|fail) only [↓AM.R0,AM.R1,AM.R2,Nat.reduceAdd,Nat.reduceLeDiff,Nat.reduceEqDiff,Int.reduceToNat,Nat.reduceLT,↓reduceIte,Int.reduceEq,Int.reduceLT,Int.reduceLE,e37]
 refine cI_or (t := 85) (s := 37) (x := i.op) (by decide) [(87,25)] (by simp -implicitDefEqProofs (disch := first|decide|assumption|omega|(simp -implicitDefEqProofs only [AM.RN];first|done|omega)|fail) only [↓AM.R0,AM.R1,AM.R2,Nat.reduceAdd,Nat.reduceLeDiff,Nat.reduceEqDiff,Int.reduceToNat,Nat.reduceLT,↓reduceIte,Int.reduceEq,Int.reduceLT,Int.reduceLE,gP4,gF4,gI4,e3,e4,e5,e7,e8,e9,e10,e11,e12,e13,e37]) (by simp -implicitDefEqProofs (disch := first|decide|assumption|omega|(simp -implicitDefEqProofs only [AM.RN];first|done|omega)|fail) only [↓AM.R0,AM.R1,AM.R2,Nat.reduceAdd,Nat.reduceLeDiff,Nat.reduceEqDiff,Int.reduceToNat,Nat.reduceLT,↓reduceIte,Int.reduceEq,Int.reduceLT,Int.reduceLE,gP4,gF4,gI4,e3,e4,e5,e7,e8,e9,e10,e11,e12,e13,e37]) (by decide) ?_
 intro e' ht hk
 have e3' : Env.val e' 3 = .ptr h.n 0 0 := (hk 3 (by decide) (by decide)).trans (by simp -implicitDefEqProofs (disch := first|decide|assumption|omega|(simp -implicitDefEqProofs only [AM.RN];first|done|omega)|fail) only [↓AM.R0,AM.R1,AM.R2,Nat.reduceAdd,Nat.reduceLeDiff,Nat.reduceEqDiff,Int.reduceToNat,Nat.reduceLT,↓reduceIte,Int.reduceEq,Int.reduceLT,Int.reduceLE,gP4,gF4,gI4,e3,e4,e5,e7,e8,e9,e10,e11,e12,e13,e37])
 have e4' : Env.val e' 4 = .ptr (h.n + 1) 0 0 := (hk 4 (by decide) (by decide)).trans (by simp -implicitDefEqProofs (disch := first|decide|assumption|omega|(simp -implicitDefEqProofs only [AM.RN];first|done|omega)|fail) only [↓AM.R0,AM.R1,AM.R2,Nat.reduceAdd,Nat.reduceLeDiff,Nat.reduceEqDiff,Int.reduceToNat,Nat.reduceLT,↓reduceIte,Int.reduceEq,Int.reduceLT,Int.reduceLE,gP4,gF4,gI4,e3,e4,e5,e7,e8,e9,e10,e11,e12,e13,e37])
 have e5' : Env.val e' 5 = .ptr (h.n + 1 + 1) 0 0 := (hk 5 (by decide) (by decide)).trans (by simp -implicitDefEqProofs (disch := first|decide|assumption|omega|(simp -implicitDefEqProofs only [AM.RN];first|done|omega)|fail) only [↓AM.R0,AM.R1,AM.R2,Nat.reduceAdd,Nat.reduceLeDiff,Nat.reduceEqDiff,Int.reduceToNat,Nat.reduceLT,↓reduceIte,Int.reduceEq,Int.reduceLT,Int.reduceLE,gP4,gF4,gI4,e3,e4,e5,e7,e8,e9,e10,e11,e12,e13,e37])
 have e7' : Env.val e' 7 = .int .i64 ((slotK f.slots i.a).getD 0) := (hk 7 (by decide) (by decide)).trans (by simp -implicitDefEqProofs (disch := first|decide|assumption|omega|(simp -implicitDefEqProofs only [AM.RN];first|done|omega)|fail) only [↓AM.R0,AM.R1,AM.R2,Nat.reduceAdd,Nat.reduceLeDiff,Nat.reduceEqDiff,Int.reduceToNat,Nat.reduceLT,↓reduceIte,Int.reduceEq,Int.reduceLT,Int.reduceLE,gP4,gF4,gI4,e3,e4,e5,e7,e8,e9,e10,e11,e12,e13,e37])
 have e8' : Env.val e' 8 = .bool (slotK f.slots i.a).isSome := (hk 8 (by decide) (by decide)).trans (by simp -implicitDefEqProofs (disch := first|decide|assumption|omega|(simp -implicitDefEqProofs only [AM.RN];first|done|omega)|fail) only [↓AM.R0,AM.R1,AM.R2,Nat.reduceAdd,Nat.reduceLeDiff,Nat.reduceEqDiff,Int.reduceToNat,Nat.reduceLT,↓reduceIte,Int.reduceEq,Int.reduceLT,Int.reduceLE,gP4,gF4,gI4,e3,e4,e5,e7,e8,e9,e10,e11,e12,e13,e37])
 have e9' : Env.val e' 9 = .int .i64 ((slotK f.slots i.b).getD 0) := (hk 9 (by decide) (by decide)).trans (by simp -implicitDefEqProofs (disch := first|decide|assumption|omega|(simp -implicitDefEqProofs only [AM.RN];first|done|omega)|fail) only [↓AM.R0,AM.R1,AM.R2,Nat.reduceAdd,Nat.reduceLeDiff,Nat.reduceEqDiff,Int.reduceToNat,Nat.reduceLT,↓reduceIte,Int.reduceEq,Int.reduceLT,Int.reduceLE,gP4,gF4,gI4,e3,e4,e5,e7,e8,e9,e10,e11,e12,e13,e37])
 have e10' : Env.val e' 10 = .bool (slotK f.slots i.b).isSome := (hk 10 (by decide) (by decide)).trans (by simp -implicitDefEqProofs (disch := first|decide|assumption|omega|(simp -implicitDefEqProofs only [AM.RN];first|done|omega)|fail) only [↓AM.R0,AM.R1,AM.R2,Nat.reduceAdd,Nat.reduceLeDiff,Nat.reduceEqDiff,Int.reduceToNat,Nat.reduceLT,↓reduceIte,Int.reduceEq,Int.reduceLT,Int.reduceLE,gP4,gF4,gI4,e3,e4,e5,e7,e8,e9,e10,e11,e12,e13,e37])
 have e11' : Env.val e' 11 = .int .i64 ((slotK f.slots i.c).getD 0) := (hk 11 (by decide) (by decide)).trans (by simp -implicitDefEqProofs (disch := first|decide|assumption|omega|(simp -implicitDefEqProofs only [AM.RN];first|done|omega)|fail) only [↓AM.R0,AM.R1,AM.R2,Nat.reduceAdd,Nat.reduceLeDiff,Nat.reduceEqDiff,Int.reduceToNat,Nat.reduceLT,↓reduceIte,Int.reduceEq,Int.reduceLT,Int.reduceLE,gP4,gF4,gI4,e3,e4,e5,e7,e8,e9,e10,e11,e12,e13,e37])
 have e12' : Env.val e' 12 = .bool (slotK f.slots i.c).isSome := (hk 12 (by decide) (by decide)).trans (by simp -implicitDefEqProofs (disch := first|decide|assumption|omega|(simp -implicitDefEqProofs only [AM.RN];first|done|omega)|fail) only [↓AM.R0,AM.R1,AM.R2,Nat.reduceAdd,Nat.reduceLeDiff,Nat.reduceEqDiff,Int.reduceToNat,Nat.reduceLT,↓reduceIte,Int.reduceEq,Int.reduceLT,Int.reduceLE,gP4,gF4,gI4,e3,e4,e5,e7,e8,e9,e10,e11,e12,e13,e37])
 have e13' : Env.val e' 13 = .ptr h3.n 0 0 := (hk 13 (by decide) (by decide)).trans (by simp -implicitDefEqProofs (disch := first|decide|assumption|omega|(simp -implicitDefEqProofs only [AM.RN];first|done|omega)|fail) only [↓AM.R0,AM.R1,AM.R2,Nat.reduceAdd,Nat.reduceLeDiff,Nat.reduceEqDiff,Int.reduceToNat,Nat.reduceLT,↓reduceIte,Int.reduceEq,Int.reduceLT,Int.reduceLE,gP4,gF4,gI4,e3,e4,e5,e7,e8,e9,e10,e11,e12,e13,e37])
 have e37' : Env.val e' 37 = .int .i64 i.op := (hk 37 (by decide) (by decide)).trans (by simp -implicitDefEqProofs (disch := first|decide|assumption|omega|(simp -implicitDefEqProofs only [AM.RN];first|done|omega)|fail) only [↓AM.R0,AM.R1,AM.R2,Nat.reduceAdd,Nat.reduceLeDiff,Nat.reduceEqDiff,Int.reduceToNat,Nat.reduceLT,↓reduceIte,Int.reduceEq,Int.reduceLT,Int.reduceLE,gP4,gF4,gI4,e3,e4,e5,e7,e8,e9,e10,e11,e12,e13,e37])
 clear hk
 try clear e3
 have e3 := e3'
 clear e3'
 try clear e4
 have e4 := e4'
 clear e4'
 try clear e5
 have e5 := e5'
 clear e5'
 try clear e7
 have e7 := e7'
 clear e7'
 try clear e8
 have e8 := e8'
 clear e8'
 try clear e9
 have e9 := e9'
 clear e9'
 try clear e10
 have e10 := e10'
 clear e10'
 try clear e11
 have e11 := e11'
 clear e11'
 try clear e12
 have e12 := e12'
 clear e12'
 try clear e13
 have e13 := e13'
 clear e13'
 try clear e37
 have e37 := e37'
 clear e37'
 simp -implicitDefEqProofs (disch := first|decide|assumption|omega|(simp -implicitDefEqProofs only [AM.RN];first|done|omega)|fail) only [↓AM.R0,AM.R1,AM.R2,Nat.reduceAdd,Nat.reduceLeDiff,Nat.reduceEqDiff,Int.reduceToNat,Nat.reduceLT,↓reduceIte,Int.reduceEq,Int.reduceLT,Int.reduceLE,ht]
 refine AM.cI_bool (fun hb => ?_) (fun hb => ?_)
 ·have m : orB i.op [24,25] = true := hb
  clear hb ht
  rw [show bodyF p f i = jumpF f i by
   have m' := m
   simp only [orB,List.any_cons,List.any_nil,Bool.or_false,Bool.or_eq_true,decide_eq_true_eq] at m'
   unfold bodyF
   rcases m' with e | e <;> rw [e] <;> rfl] at hQ
  simp -implicitDefEqProofs (disch := first|decide|assumption|omega|(simp -implicitDefEqProofs only [AM.RN];first|done|omega)|fail) only [↓AM.R0,AM.R1,AM.R2,Nat.reduceAdd,Nat.reduceLeDiff,Nat.reduceEqDiff,Int.reduceToNat,Nat.reduceLT,↓reduceIte,Int.reduceEq,Int.reduceLT,Int.reduceLE,e3,e4,e5,gP4,gF4,gI4,cl,c1,c2,c3,c4,c5,c6]
  refine AM.callI_of (rJump (F0.keep f04) (R0.keep f04)) ?_
  rintro r h5 ⟨f5,rfl⟩
  simp -implicitDefEqProofs (disch := first|decide|assumption|omega|(simp -implicitDefEqProofs only [AM.RN];first|done|omega)|fail) only [↓AM.R0,AM.R1,AM.R2,Nat.reduceAdd,Nat.reduceLeDiff,Nat.reduceEqDiff,Int.reduceToNat,Nat.reduceLT,↓reduceIte,Int.reduceEq,Int.reduceLT,Int.reduceLE]
  subst hQ
  exact ⟨f04.trans f5,rfl⟩
 have n85 : orB i.op [24,25] = false := hb
 clear hb ht
 simp -implicitDefEqProofs (disch := first|decide|assumption|omega|(simp -implicitDefEqProofs only [AM.RN];first|done|omega)|fail) only [↓AM.R0,AM.R1,AM.R2,Nat.reduceAdd,Nat.reduceLeDiff,Nat.reduceEqDiff,Int.reduceToNat,Nat.reduceLT,↓reduceIte,Int.reduceEq,Int.reduceLT,Int.reduceLE,e37]
 refine cI_or (t := 91) (s := 37) (x := i.op) (by decide) [(93,36), (94,37), (95,38)] (by simp -implicitDefEqProofs (disch := first|decide|assumption|omega|(simp -implicitDefEqProofs only [AM.RN];first|done|omega)|fail) only [↓AM.R0,AM.R1,AM.R2,Nat.reduceAdd,Nat.reduceLeDiff,Nat.reduceEqDiff,Int.reduceToNat,Nat.reduceLT,↓reduceIte,Int.reduceEq,Int.reduceLT,Int.reduceLE,gP4,gF4,gI4,e3,e4,e5,e7,e8,e9,e10,e11,e12,e13,e37]) (by simp -implicitDefEqProofs (disch := first|decide|assumption|omega|(simp -implicitDefEqProofs only [AM.RN];first|done|omega)|fail) only [↓AM.R0,AM.R1,AM.R2,Nat.reduceAdd,Nat.reduceLeDiff,Nat.reduceEqDiff,Int.reduceToNat,Nat.reduceLT,↓reduceIte,Int.reduceEq,Int.reduceLT,Int.reduceLE,gP4,gF4,gI4,e3,e4,e5,e7,e8,e9,e10,e11,e12,e13,e37]) (by decide) ?_
 intro e' ht hk
 have e3' : Env.val e' 3 = .ptr h.n 0 0 := (hk 3 (by decide) (by decide)).trans (by simp -implicitDefEqProofs (disch := first|decide|assumption|omega|(simp -implicitDefEqProofs only [AM.RN];first|done|omega)|fail) only [↓AM.R0,AM.R1,AM.R2,Nat.reduceAdd,Nat.reduceLeDiff,Nat.reduceEqDiff,Int.reduceToNat,Nat.reduceLT,↓reduceIte,Int.reduceEq,Int.reduceLT,Int.reduceLE,gP4,gF4,gI4,e3,e4,e5,e7,e8,e9,e10,e11,e12,e13,e37])
 have e4' : Env.val e' 4 = .ptr (h.n + 1) 0 0 := (hk 4 (by decide) (by decide)).trans (by simp -implicitDefEqProofs (disch := first|decide|assumption|omega|(simp -implicitDefEqProofs only [AM.RN];first|done|omega)|fail) only [↓AM.R0,AM.R1,AM.R2,Nat.reduceAdd,Nat.reduceLeDiff,Nat.reduceEqDiff,Int.reduceToNat,Nat.reduceLT,↓reduceIte,Int.reduceEq,Int.reduceLT,Int.reduceLE,gP4,gF4,gI4,e3,e4,e5,e7,e8,e9,e10,e11,e12,e13,e37])
 have e5' : Env.val e' 5 = .ptr (h.n + 1 + 1) 0 0 := (hk 5 (by decide) (by decide)).trans (by simp -implicitDefEqProofs (disch := first|decide|assumption|omega|(simp -implicitDefEqProofs only [AM.RN];first|done|omega)|fail) only [↓AM.R0,AM.R1,AM.R2,Nat.reduceAdd,Nat.reduceLeDiff,Nat.reduceEqDiff,Int.reduceToNat,Nat.reduceLT,↓reduceIte,Int.reduceEq,Int.reduceLT,Int.reduceLE,gP4,gF4,gI4,e3,e4,e5,e7,e8,e9,e10,e11,e12,e13,e37])
 have e7' : Env.val e' 7 = .int .i64 ((slotK f.slots i.a).getD 0) := (hk 7 (by decide) (by decide)).trans (by simp -implicitDefEqProofs (disch := first|decide|assumption|omega|(simp -implicitDefEqProofs only [AM.RN];first|done|omega)|fail) only [↓AM.R0,AM.R1,AM.R2,Nat.reduceAdd,Nat.reduceLeDiff,Nat.reduceEqDiff,Int.reduceToNat,Nat.reduceLT,↓reduceIte,Int.reduceEq,Int.reduceLT,Int.reduceLE,gP4,gF4,gI4,e3,e4,e5,e7,e8,e9,e10,e11,e12,e13,e37])
 have e8' : Env.val e' 8 = .bool (slotK f.slots i.a).isSome := (hk 8 (by decide) (by decide)).trans (by simp -implicitDefEqProofs (disch := first|decide|assumption|omega|(simp -implicitDefEqProofs only [AM.RN];first|done|omega)|fail) only [↓AM.R0,AM.R1,AM.R2,Nat.reduceAdd,Nat.reduceLeDiff,Nat.reduceEqDiff,Int.reduceToNat,Nat.reduceLT,↓reduceIte,Int.reduceEq,Int.reduceLT,Int.reduceLE,gP4,gF4,gI4,e3,e4,e5,e7,e8,e9,e10,e11,e12,e13,e37])
 have e9' : Env.val e' 9 = .int .i64 ((slotK f.slots i.b).getD 0) := (hk 9 (by decide) (by decide)).trans (by simp -implicitDefEqProofs (disch := first|decide|assumption|omega|(simp -implicitDefEqProofs only [AM.RN];first|done|omega)|fail) only [↓AM.R0,AM.R1,AM.R2,Nat.reduceAdd,Nat.reduceLeDiff,Nat.reduceEqDiff,Int.reduceToNat,Nat.reduceLT,↓reduceIte,Int.reduceEq,Int.reduceLT,Int.reduceLE,gP4,gF4,gI4,e3,e4,e5,e7,e8,e9,e10,e11,e12,e13,e37])
 have e10' : Env.val e' 10 = .bool (slotK f.slots i.b).isSome := (hk 10 (by decide) (by decide)).trans (by simp -implicitDefEqProofs (disch := first|decide|assumption|omega|(simp -implicitDefEqProofs only [AM.RN];first|done|omega)|fail) only [↓AM.R0,AM.R1,AM.R2,Nat.reduceAdd,Nat.reduceLeDiff,Nat.reduceEqDiff,Int.reduceToNat,Nat.reduceLT,↓reduceIte,Int.reduceEq,Int.reduceLT,Int.reduceLE,gP4,gF4,gI4,e3,e4,e5,e7,e8,e9,e10,e11,e12,e13,e37])
 have e11' : Env.val e' 11 = .int .i64 ((slotK f.slots i.c).getD 0) := (hk 11 (by decide) (by decide)).trans (by simp -implicitDefEqProofs (disch := first|decide|assumption|omega|(simp -implicitDefEqProofs only [AM.RN];first|done|omega)|fail) only [↓AM.R0,AM.R1,AM.R2,Nat.reduceAdd,Nat.reduceLeDiff,Nat.reduceEqDiff,Int.reduceToNat,Nat.reduceLT,↓reduceIte,Int.reduceEq,Int.reduceLT,Int.reduceLE,gP4,gF4,gI4,e3,e4,e5,e7,e8,e9,e10,e11,e12,e13,e37])
 have e12' : Env.val e' 12 = .bool (slotK f.slots i.c).isSome := (hk 12 (by decide) (by decide)).trans (by simp -implicitDefEqProofs (disch := first|decide|assumption|omega|(simp -implicitDefEqProofs only [AM.RN];first|done|omega)|fail) only [↓AM.R0,AM.R1,AM.R2,Nat.reduceAdd,Nat.reduceLeDiff,Nat.reduceEqDiff,Int.reduceToNat,Nat.reduceLT,↓reduceIte,Int.reduceEq,Int.reduceLT,Int.reduceLE,gP4,gF4,gI4,e3,e4,e5,e7,e8,e9,e10,e11,e12,e13,e37])
 have e13' : Env.val e' 13 = .ptr h3.n 0 0 := (hk 13 (by decide) (by decide)).trans (by simp -implicitDefEqProofs (disch := first|decide|assumption|omega|(simp -implicitDefEqProofs only [AM.RN];first|done|omega)|fail) only [↓AM.R0,AM.R1,AM.R2,Nat.reduceAdd,Nat.reduceLeDiff,Nat.reduceEqDiff,Int.reduceToNat,Nat.reduceLT,↓reduceIte,Int.reduceEq,Int.reduceLT,Int.reduceLE,gP4,gF4,gI4,e3,e4,e5,e7,e8,e9,e10,e11,e12,e13,e37])
 have e37' : Env.val e' 37 = .int .i64 i.op := (hk 37 (by decide) (by decide)).trans (by simp -implicitDefEqProofs (disch := first|decide|assumption|omega|(simp -implicitDefEqProofs only [AM.RN];first|done|omega)|fail) only [↓AM.R0,AM.R1,AM.R2,Nat.reduceAdd,Nat.reduceLeDiff,Nat.reduceEqDiff,Int.reduceToNat,Nat.reduceLT,↓reduceIte,Int.reduceEq,Int.reduceLT,Int.reduceLE,gP4,gF4,gI4,e3,e4,e5,e7,e8,e9,e10,e11,e12,e13,e37])
 clear hk
 try clear e3
 have e3 := e3'
 clear e3'
 try clear e4
 have e4 := e4'
 clear e4'
 try clear e5
 have e5 := e5'
 clear e5'
 try clear e7
 have e7 := e7'
 clear e7'
 try clear e8
 have e8 := e8'
 clear e8'
 try clear e9
 have e9 := e9'
 clear e9'
 try clear e10
 have e10 := e10'
 clear e10'
 try clear e11
 have e11 := e11'
 clear e11'
 try clear e12
 have e12 := e12'
 clear e12'
 try clear e13
 have e13 := e13'
 clear e13'
 try clear e37
 have e37 := e37'
 clear e37'
 simp -implicitDefEqProofs (disch := first|decide|assumption|omega|(simp -implicitDefEqProofs only [AM.RN];first|done|omega)|fail) only [↓AM.R0,AM.R1,AM.R2,Nat.reduceAdd,Nat.reduceLeDiff,Nat.reduceEqDiff,Int.reduceToNat,Nat.reduceLT,↓reduceIte,Int.reduceEq,Int.reduceLT,Int.reduceLE,ht]
 refine AM.cI_bool (fun hb => ?_) (fun hb => ?_)
 ·have m : orB i.op [35,36,37,38] = true := hb
  clear hb ht
  rw [show bodyF p f i = callsF p f i by
   have m' := m
   simp only [orB,List.any_cons,List.any_nil,Bool.or_false,Bool.or_eq_true,decide_eq_true_eq] at m'
   unfold bodyF
   rcases m' with e | e | e | e <;> rw [e] <;> rfl] at hQ
  simp -implicitDefEqProofs (disch := first|decide|assumption|omega|(simp -implicitDefEqProofs only [AM.RN];first|done|omega)|fail) only [↓AM.R0,AM.R1,AM.R2,Nat.reduceAdd,Nat.reduceLeDiff,Nat.reduceEqDiff,Int.reduceToNat,Nat.reduceLT,↓reduceIte,Int.reduceEq,Int.reduceLT,Int.reduceLE,e3,e4,e5,gP4,gF4,gI4,cl,c1,c2,c3,c4,c5,c6]
  refine AM.callI_of (rCalls (P0.keep f04) (F0.keep f04) HP hl (R0.keep f04)) ?_
  rintro r h5 ⟨f5,rfl⟩
  simp -implicitDefEqProofs (disch := first|decide|assumption|omega|(simp -implicitDefEqProofs only [AM.RN];first|done|omega)|fail) only [↓AM.R0,AM.R1,AM.R2,Nat.reduceAdd,Nat.reduceLeDiff,Nat.reduceEqDiff,Int.reduceToNat,Nat.reduceLT,↓reduceIte,Int.reduceEq,Int.reduceLT,Int.reduceLE]
  subst hQ
  exact ⟨f04.trans f5,rfl⟩
 have n91 : orB i.op [35,36,37,38] = false := hb
 clear hb ht
 simp -implicitDefEqProofs (disch := first|decide|assumption|omega|(simp -implicitDefEqProofs only [AM.RN];first|done|omega)|fail) only [↓AM.R0,AM.R1,AM.R2,Nat.reduceAdd,Nat.reduceLeDiff,Nat.reduceEqDiff,Int.reduceToNat,Nat.reduceLT,↓reduceIte,Int.reduceEq,Int.reduceLT,Int.reduceLE,e37]
 refine cI_or (t := 100) (s := 37) (x := i.op) (by decide) [(102,44), (103,42), (104,43), (105,45)] (by simp -implicitDefEqProofs (disch := first|decide|assumption|omega|(simp -implicitDefEqProofs only [AM.RN];first|done|omega)|fail) only [↓AM.R0,AM.R1,AM.R2,Nat.reduceAdd,Nat.reduceLeDiff,Nat.reduceEqDiff,Int.reduceToNat,Nat.reduceLT,↓reduceIte,Int.reduceEq,Int.reduceLT,Int.reduceLE,gP4,gF4,gI4,e3,e4,e5,e7,e8,e9,e10,e11,e12,e13,e37]) (by simp -implicitDefEqProofs (disch := first|decide|assumption|omega|(simp -implicitDefEqProofs only [AM.RN];first|done|omega)|fail) only [↓AM.R0,AM.R1,AM.R2,Nat.reduceAdd,Nat.reduceLeDiff,Nat.reduceEqDiff,Int.reduceToNat,Nat.reduceLT,↓reduceIte,Int.reduceEq,Int.reduceLT,Int.reduceLE,gP4,gF4,gI4,e3,e4,e5,e7,e8,e9,e10,e11,e12,e13,e37]) (by decide) ?_
 intro e' ht hk
 have e3' : Env.val e' 3 = .ptr h.n 0 0 := (hk 3 (by decide) (by decide)).trans (by simp -implicitDefEqProofs (disch := first|decide|assumption|omega|(simp -implicitDefEqProofs only [AM.RN];first|done|omega)|fail) only [↓AM.R0,AM.R1,AM.R2,Nat.reduceAdd,Nat.reduceLeDiff,Nat.reduceEqDiff,Int.reduceToNat,Nat.reduceLT,↓reduceIte,Int.reduceEq,Int.reduceLT,Int.reduceLE,gP4,gF4,gI4,e3,e4,e5,e7,e8,e9,e10,e11,e12,e13,e37])
 have e4' : Env.val e' 4 = .ptr (h.n + 1) 0 0 := (hk 4 (by decide) (by decide)).trans (by simp -implicitDefEqProofs (disch := first|decide|assumption|omega|(simp -implicitDefEqProofs only [AM.RN];first|done|omega)|fail) only [↓AM.R0,AM.R1,AM.R2,Nat.reduceAdd,Nat.reduceLeDiff,Nat.reduceEqDiff,Int.reduceToNat,Nat.reduceLT,↓reduceIte,Int.reduceEq,Int.reduceLT,Int.reduceLE,gP4,gF4,gI4,e3,e4,e5,e7,e8,e9,e10,e11,e12,e13,e37])
 have e5' : Env.val e' 5 = .ptr (h.n + 1 + 1) 0 0 := (hk 5 (by decide) (by decide)).trans (by simp -implicitDefEqProofs (disch := first|decide|assumption|omega|(simp -implicitDefEqProofs only [AM.RN];first|done|omega)|fail) only [↓AM.R0,AM.R1,AM.R2,Nat.reduceAdd,Nat.reduceLeDiff,Nat.reduceEqDiff,Int.reduceToNat,Nat.reduceLT,↓reduceIte,Int.reduceEq,Int.reduceLT,Int.reduceLE,gP4,gF4,gI4,e3,e4,e5,e7,e8,e9,e10,e11,e12,e13,e37])
 have e7' : Env.val e' 7 = .int .i64 ((slotK f.slots i.a).getD 0) := (hk 7 (by decide) (by decide)).trans (by simp -implicitDefEqProofs (disch := first|decide|assumption|omega|(simp -implicitDefEqProofs only [AM.RN];first|done|omega)|fail) only [↓AM.R0,AM.R1,AM.R2,Nat.reduceAdd,Nat.reduceLeDiff,Nat.reduceEqDiff,Int.reduceToNat,Nat.reduceLT,↓reduceIte,Int.reduceEq,Int.reduceLT,Int.reduceLE,gP4,gF4,gI4,e3,e4,e5,e7,e8,e9,e10,e11,e12,e13,e37])
 have e8' : Env.val e' 8 = .bool (slotK f.slots i.a).isSome := (hk 8 (by decide) (by decide)).trans (by simp -implicitDefEqProofs (disch := first|decide|assumption|omega|(simp -implicitDefEqProofs only [AM.RN];first|done|omega)|fail) only [↓AM.R0,AM.R1,AM.R2,Nat.reduceAdd,Nat.reduceLeDiff,Nat.reduceEqDiff,Int.reduceToNat,Nat.reduceLT,↓reduceIte,Int.reduceEq,Int.reduceLT,Int.reduceLE,gP4,gF4,gI4,e3,e4,e5,e7,e8,e9,e10,e11,e12,e13,e37])
 have e9' : Env.val e' 9 = .int .i64 ((slotK f.slots i.b).getD 0) := (hk 9 (by decide) (by decide)).trans (by simp -implicitDefEqProofs (disch := first|decide|assumption|omega|(simp -implicitDefEqProofs only [AM.RN];first|done|omega)|fail) only [↓AM.R0,AM.R1,AM.R2,Nat.reduceAdd,Nat.reduceLeDiff,Nat.reduceEqDiff,Int.reduceToNat,Nat.reduceLT,↓reduceIte,Int.reduceEq,Int.reduceLT,Int.reduceLE,gP4,gF4,gI4,e3,e4,e5,e7,e8,e9,e10,e11,e12,e13,e37])
 have e10' : Env.val e' 10 = .bool (slotK f.slots i.b).isSome := (hk 10 (by decide) (by decide)).trans (by simp -implicitDefEqProofs (disch := first|decide|assumption|omega|(simp -implicitDefEqProofs only [AM.RN];first|done|omega)|fail) only [↓AM.R0,AM.R1,AM.R2,Nat.reduceAdd,Nat.reduceLeDiff,Nat.reduceEqDiff,Int.reduceToNat,Nat.reduceLT,↓reduceIte,Int.reduceEq,Int.reduceLT,Int.reduceLE,gP4,gF4,gI4,e3,e4,e5,e7,e8,e9,e10,e11,e12,e13,e37])
 have e11' : Env.val e' 11 = .int .i64 ((slotK f.slots i.c).getD 0) := (hk 11 (by decide) (by decide)).trans (by simp -implicitDefEqProofs (disch := first|decide|assumption|omega|(simp -implicitDefEqProofs only [AM.RN];first|done|omega)|fail) only [↓AM.R0,AM.R1,AM.R2,Nat.reduceAdd,Nat.reduceLeDiff,Nat.reduceEqDiff,Int.reduceToNat,Nat.reduceLT,↓reduceIte,Int.reduceEq,Int.reduceLT,Int.reduceLE,gP4,gF4,gI4,e3,e4,e5,e7,e8,e9,e10,e11,e12,e13,e37])
 have e12' : Env.val e' 12 = .bool (slotK f.slots i.c).isSome := (hk 12 (by decide) (by decide)).trans (by simp -implicitDefEqProofs (disch := first|decide|assumption|omega|(simp -implicitDefEqProofs only [AM.RN];first|done|omega)|fail) only [↓AM.R0,AM.R1,AM.R2,Nat.reduceAdd,Nat.reduceLeDiff,Nat.reduceEqDiff,Int.reduceToNat,Nat.reduceLT,↓reduceIte,Int.reduceEq,Int.reduceLT,Int.reduceLE,gP4,gF4,gI4,e3,e4,e5,e7,e8,e9,e10,e11,e12,e13,e37])
 have e13' : Env.val e' 13 = .ptr h3.n 0 0 := (hk 13 (by decide) (by decide)).trans (by simp -implicitDefEqProofs (disch := first|decide|assumption|omega|(simp -implicitDefEqProofs only [AM.RN];first|done|omega)|fail) only [↓AM.R0,AM.R1,AM.R2,Nat.reduceAdd,Nat.reduceLeDiff,Nat.reduceEqDiff,Int.reduceToNat,Nat.reduceLT,↓reduceIte,Int.reduceEq,Int.reduceLT,Int.reduceLE,gP4,gF4,gI4,e3,e4,e5,e7,e8,e9,e10,e11,e12,e13,e37])
 have e37' : Env.val e' 37 = .int .i64 i.op := (hk 37 (by decide) (by decide)).trans (by simp -implicitDefEqProofs (disch := first|decide|assumption|omega|(simp -implicitDefEqProofs only [AM.RN];first|done|omega)|fail) only [↓AM.R0,AM.R1,AM.R2,Nat.reduceAdd,Nat.reduceLeDiff,Nat.reduceEqDiff,Int.reduceToNat,Nat.reduceLT,↓reduceIte,Int.reduceEq,Int.reduceLT,Int.reduceLE,gP4,gF4,gI4,e3,e4,e5,e7,e8,e9,e10,e11,e12,e13,e37])
 clear hk
 try clear e3
 have e3 := e3'
 clear e3'
 try clear e4
 have e4 := e4'
 clear e4'
 try clear e5
 have e5 := e5'
 clear e5'
 try clear e7
 have e7 := e7'
 clear e7'
 try clear e8
 have e8 := e8'
 clear e8'
 try clear e9
 have e9 := e9'
 clear e9'
 try clear e10
 have e10 := e10'
 clear e10'
 try clear e11
 have e11 := e11'
 clear e11'
 try clear e12
 have e12 := e12'
 clear e12'
 try clear e13
 have e13 := e13'
 clear e13'
 try clear e37
 have e37 := e37'
 clear e37'
 simp -implicitDefEqProofs (disch := first|decide|assumption|omega|(simp -implicitDefEqProofs only [AM.RN];first|done|omega)|fail) only [↓AM.R0,AM.R1,AM.R2,Nat.reduceAdd,Nat.reduceLeDiff,Nat.reduceEqDiff,Int.reduceToNat,Nat.reduceLT,↓reduceIte,Int.reduceEq,Int.reduceLT,Int.reduceLE,ht]
 refine AM.cI_bool (fun hb => ?_) (fun hb => ?_)
 ·have m : orB i.op [41,44,42,43,45] = true := hb
  clear hb ht
  rw [show bodyF p f i = channelsF f.slots i by
   have m' := m
   simp only [orB,List.any_cons,List.any_nil,Bool.or_false,Bool.or_eq_true,decide_eq_true_eq] at m'
   unfold bodyF
   rcases m' with e | e | e | e | e <;> rw [e] <;> rfl] at hQ
  simp -implicitDefEqProofs (disch := first|decide|assumption|omega|(simp -implicitDefEqProofs only [AM.RN];first|done|omega)|fail) only [↓AM.R0,AM.R1,AM.R2,Nat.reduceAdd,Nat.reduceLeDiff,Nat.reduceEqDiff,Int.reduceToNat,Nat.reduceLT,↓reduceIte,Int.reduceEq,Int.reduceLT,Int.reduceLE,e3,e4,e5,gP4,gF4,gI4,cl,c1,c2,c3,c4,c5,c6]
  refine AM.callI_of (rChannels (F0.keep f04) (R0.keep f04) H hl m) ?_
  rintro r h5 ⟨f5,rfl⟩
  simp -implicitDefEqProofs (disch := first|decide|assumption|omega|(simp -implicitDefEqProofs only [AM.RN];first|done|omega)|fail) only [↓AM.R0,AM.R1,AM.R2,Nat.reduceAdd,Nat.reduceLeDiff,Nat.reduceEqDiff,Int.reduceToNat,Nat.reduceLT,↓reduceIte,Int.reduceEq,Int.reduceLT,Int.reduceLE]
  subst hQ
  exact ⟨f04.trans f5,rfl⟩
 have n100 : orB i.op [41,44,42,43,45] = false := hb
 clear hb ht
 have m : orB i.op [26,27,28,29,30,31,32,33,34] = true := by
  simp only [orB,List.any_cons,List.any_nil,Bool.or_false,Bool.or_eq_true,decide_eq_true_eq,Bool.or_eq_false_iff,decide_eq_false_iff_not] at *
  omega
 rw [show bodyF p f i = memF p f.slots i by
   have m' := m
   simp only [orB,List.any_cons,List.any_nil,Bool.or_false,Bool.or_eq_true,decide_eq_true_eq] at m'
   unfold bodyF
   rcases m' with e | e | e | e | e | e | e | e | e <;> rw [e] <;> rfl] at hQ
 simp -implicitDefEqProofs (disch := first|decide|assumption|omega|(simp -implicitDefEqProofs only [AM.RN];first|done|omega)|fail) only [↓AM.R0,AM.R1,AM.R2,Nat.reduceAdd,Nat.reduceLeDiff,Nat.reduceEqDiff,Int.reduceToNat,Nat.reduceLT,↓reduceIte,Int.reduceEq,Int.reduceLT,Int.reduceLE,e3,e4,e5,gP4,gF4,gI4,cl,c1,c2,c3,c4,c5,c6]
 refine AM.callI_of (rMemory (P0.keep f04) (F0.keep f04) (R0.keep f04) H T hT m) ?_
 rintro r h5 ⟨f5,rfl⟩
 simp -implicitDefEqProofs (disch := first|decide|assumption|omega|(simp -implicitDefEqProofs only [AM.RN];first|done|omega)|fail) only [↓AM.R0,AM.R1,AM.R2,Nat.reduceAdd,Nat.reduceLeDiff,Nat.reduceEqDiff,Int.reduceToNat,Nat.reduceLT,↓reduceIte,Int.reduceEq,Int.reduceLT,Int.reduceLE]
 subst hQ
 exact ⟨f04.trans f5,rfl⟩
end Go.Proofs.Ytofcnjglnnoimaa.Vf
namespace Go.Proofs.Ytofcnjglnnoimaa.Vf
open Go Go.AM Go.Proofs.Ytofcnjglnnoimaa.AmGW
attribute [local irreducible] AM.wp AM.wpIs AM.wpTr AM.opI AM.gI AM.cI AM.trI AM.callI AM.fnI AM.trG AM.trOp AM.trCall AM.seqC AM.loopI
set_option maxRecDepth 100000
set_option linter.unusedVariables false
set_option linter.unusedSimpArgs false
set_option maxHeartbeats 16000000 in
theorem rIns {h : AHeap} {p : PProg} {f : PFunc} {i : PIns} {prow frow row : List AVal} (P : ProgR h p prow) (F : FuncR h f frow) (R : InsR h i row) (H : Hs p f.slots) (T : Ht p) (hT : p.types.length ≤ 32) (HP : Hp p) :
  CallP AP 37 [.agg prow, .agg frow, .agg row] h fun r h' => HFrame h h' [] [] ∧ r = .int .i64 (insF p f i) := by
 have F0 := F
 have P0 := P
 have R0 := R
 obtain ⟨sv,rv,cv,rfl,s4,s5,s6⟩ := F
 obtain ⟨tv,gv,fv,rfl,RT,RG,RF⟩ := P
 obtain ⟨hi,lv,rfl,L⟩ := R
 refine callP (rfl : Tr.get AP 37 = some A37) ?_
 generalize hQ : (fun (r : AVal) (h' : AHeap) => _) = Q
 have cl := SlIn.cellv L
 have bl := SlIn.beqv L
 have c1 := SlIn.cellv s4
 have c2 := SlIn.cellv s5
 have c3 := SlR.cellv s6
 have c4 := SlR.cellv RT
 have c5 := SlIn.cellv RG
 have c6 := SlR.cellv RF
 have b1 := SlIn.beqv s4
 have b2 := SlIn.beqv s5
 have b3 := SlR.beqv s6
 have b4 := SlR.beqv RT
 have b5 := SlIn.beqv RG
 have b6 := SlR.beqv RF
 have bi : ∀ (k : IntKind) (n : Int), (AVal.int k n).beq (.int k n) = true := fun k n => by simp [AVal.beq]
 have bp : ∀ a b c, (AVal.ptr a b c).beq (.ptr a b c) = true := fun a b c => by simp [AVal.beq]
 have bs : ∀ a b c d e, (AVal.sl a b c d e).beq (AVal.sl a b c d e) = true := AM.beq_sl
 have f0 := ((((HFrame.refl (h := h) (F := []) (by simp)).pushTmp (.cells 0 false [tv,gv,fv])).pushTmp (.cells 0 false [.int .i64 f.params,sv,rv,cv])).pushTmp (.cells 0 false [.int .i64 i.op, .int .i64 i.a, .int .i64 i.b, .int .i64 i.c, .int .u64 i.imm,lv]))
 obtain ⟨hA,hhA⟩ : ∃ hA,hA = (((h.push (.cells 0 false [tv,gv,fv])).push (.cells 0 false [.int .i64 f.params,sv,rv,cv])).push (.cells 0 false [.int .i64 i.op, .int .i64 i.a, .int .i64 i.b, .int .i64 i.c, .int .u64 i.imm,lv])) := ⟨_,rfl⟩
 have gP0 : hA.get (h.n) = .cells 0 false [tv,gv,fv] := by rw [hhA]; simp -implicitDefEqProofs (disch := first|decide|assumption|omega|(simp -implicitDefEqProofs only [AM.RN];first|done|omega)|fail) only [↓AM.R0,AM.R1,AM.R2,Nat.reduceAdd,Nat.reduceLeDiff,Nat.reduceEqDiff,Int.reduceToNat,Nat.reduceLT,↓reduceIte,Int.reduceEq,Int.reduceLT,Int.reduceLE]
 have gF0 : hA.get (h.n + 1) = .cells 0 false [.int .i64 f.params,sv,rv,cv] := by rw [hhA]; simp -implicitDefEqProofs (disch := first|decide|assumption|omega|(simp -implicitDefEqProofs only [AM.RN];first|done|omega)|fail) only [↓AM.R0,AM.R1,AM.R2,Nat.reduceAdd,Nat.reduceLeDiff,Nat.reduceEqDiff,Int.reduceToNat,Nat.reduceLT,↓reduceIte,Int.reduceEq,Int.reduceLT,Int.reduceLE]
 have gI0 : hA.get (h.n + 1 + 1) = .cells 0 false [.int .i64 i.op, .int .i64 i.a, .int .i64 i.b, .int .i64 i.c, .int .u64 i.imm,lv] := by rw [hhA]; simp -implicitDefEqProofs (disch := first|decide|assumption|omega|(simp -implicitDefEqProofs only [AM.RN];first|done|omega)|fail) only [↓AM.R0,AM.R1,AM.R2,Nat.reduceAdd,Nat.reduceLeDiff,Nat.reduceEqDiff,Int.reduceToNat,Nat.reduceLT,↓reduceIte,Int.reduceEq,Int.reduceLT,Int.reduceLE]
 have n0 : h.n + 3 ≤ hA.n := by rw [hhA]; simp
 simp -implicitDefEqProofs (disch := first|decide|assumption|omega|(simp -implicitDefEqProofs only [AM.RN];first|done|omega)|fail) only [AM.RGB,↓AM.R0,AM.R1,AM.R2,Nat.reduceAdd,Nat.reduceLeDiff,Nat.reduceEqDiff,Int.reduceToNat,Nat.reduceLT,↓reduceIte,Int.reduceEq,Int.reduceLT,Int.reduceLE,cl,c1,c2,c3,c4,c5,c6]
 rw [← hhA] at f0 ⊢
 clear hhA
 refine AM.cI_bool (fun hb => ?_) (fun hb => ?_)
 ·simp -implicitDefEqProofs (disch := first|decide|assumption|omega|(simp -implicitDefEqProofs only [AM.RN];first|done|omega)|fail) only [↓AM.R0,AM.R1,AM.R2,Nat.reduceAdd,Nat.reduceLeDiff,Nat.reduceEqDiff,Int.reduceToNat,Nat.reduceLT,↓reduceIte,Int.reduceEq,Int.reduceLT,Int.reduceLE]
  simp only [Bool.or_eq_true,decide_eq_true_eq] at hb
  subst hQ
  exact ⟨f0,by rw [insF,if_pos (by omega)]⟩
 simp only [Bool.or_eq_false_iff,decide_eq_false_iff_not] at hb
 have hb0 := hb
 clear hb
 simp -implicitDefEqProofs (disch := first|decide|assumption|omega|(simp -implicitDefEqProofs only [AM.RN];first|done|omega)|fail) only [↓AM.R0,AM.R1,AM.R2,Nat.reduceAdd,Nat.reduceLeDiff,Nat.reduceEqDiff,Int.reduceToNat,Nat.reduceLT,↓reduceIte,Int.reduceEq,Int.reduceLT,Int.reduceLE,gI0,cl]
 refine AM.callI_of (rForm (R0.keep f0)) ?_
 rintro r h1 ⟨f1,rfl⟩
 have n1 : h.n + 3 ≤ h1.n := by have := f1.n; omega
 have gP1 : h1.get (h.n) = .cells 0 false [tv,gv,fv] := (f1.get _ (by omega) (by simp)).trans gP0
 have gF1 : h1.get (h.n + 1) = .cells 0 false [.int .i64 f.params,sv,rv,cv] := (f1.get _ (by omega) (by simp)).trans gF0
 have gI1 : h1.get (h.n + 1 + 1) = .cells 0 false [.int .i64 i.op, .int .i64 i.a, .int .i64 i.b, .int .i64 i.c, .int .u64 i.imm,lv] := (f1.get _ (by omega) (by simp)).trans gI0
 have f01 := f0.trans f1
 simp -implicitDefEqProofs (disch := first|decide|assumption|omega|(simp -implicitDefEqProofs only [AM.RN];first|done|omega)|fail) only [↓AM.R0,AM.R1,AM.R2,Nat.reduceAdd,Nat.reduceLeDiff,Nat.reduceEqDiff,Int.reduceToNat,Nat.reduceLT,↓reduceIte,Int.reduceEq,Int.reduceLT,Int.reduceLE]
 refine AM.cI_bool (fun hc => ?_) (fun hc => ?_)
 ·have hc' : formF i ≠ 0 := by simpa using hc
  simp -implicitDefEqProofs (disch := first|decide|assumption|omega|(simp -implicitDefEqProofs only [AM.RN];first|done|omega)|fail) only [↓AM.R0,AM.R1,AM.R2,Nat.reduceAdd,Nat.reduceLeDiff,Nat.reduceEqDiff,Int.reduceToNat,Nat.reduceLT,↓reduceIte,Int.reduceEq,Int.reduceLT,Int.reduceLE]
  subst hQ
  exact ⟨f01,by rw [insF,if_neg (by omega), if_pos hc']⟩
 have hc' : ¬ formF i ≠ 0 := by simpa using hc
 have hl := formF_len hc'
 rw [show insF p f i = bodyF p f i by rw [insF,if_neg (by omega), if_neg hc']] at hQ
 have fV := (HFrame.refl (h := h1) (F := []) (by simp)).pushTmp (.cells 0 false [.nils, .nils])
 have gV : (h1.push (.cells 0 false [.nils, .nils])).get h1.n = .cells 0 false [.nils, .nils] := AHeap.get_push_same _ _
 have nV : (h1.push (.cells 0 false [.nils, .nils])).n = h1.n + 1 := by simp
 have lV : h1.n < (h1.push (.cells 0 false [.nils, .nils])).n := by simp
 obtain ⟨hV,hhV⟩ : ∃ hV,hV = h1.push (.cells 0 false [.nils, .nils]) := ⟨_,rfl⟩
 rw [← hhV] at fV gV nV lV
 have n2 : h.n + 3 ≤ hV.n := by have := fV.n; omega
 have gP2 : hV.get (h.n) = .cells 0 false [tv,gv,fv] := (fV.get _ (by omega) (by simp)).trans gP1
 have gF2 : hV.get (h.n + 1) = .cells 0 false [.int .i64 f.params,sv,rv,cv] := (fV.get _ (by omega) (by simp)).trans gF1
 have gI2 : hV.get (h.n + 1 + 1) = .cells 0 false [.int .i64 i.op, .int .i64 i.a, .int .i64 i.b, .int .i64 i.c, .int .u64 i.imm,lv] := (fV.get _ (by omega) (by simp)).trans gI1
 have f02 := f01.trans fV
 simp -implicitDefEqProofs (disch := first|decide|assumption|omega|(simp -implicitDefEqProofs only [AM.RN];first|done|omega)|fail) only [AM.RGB,↓AM.R0,AM.R1,AM.R2,Nat.reduceAdd,Nat.reduceLeDiff,Nat.reduceEqDiff,Int.reduceToNat,Nat.reduceLT,↓reduceIte,Int.reduceEq,Int.reduceLT,Int.reduceLE, ← hhV,gP2,gF2,gI2]
 clear hhV
 refine AM.cI_bool (fun hb => ?_) (fun hb => ?_)
 ·have o1 : i.op = 3 ∨ i.op = 4 ∨ i.op = 5 ∨ i.op = 6 ∨ i.op = 7 ∨ i.op = 8 ∨ i.op = 9 ∨ i.op = 10 ∨ i.op = 11 ∨ i.op = 12 ∨ i.op = 13 ∨ i.op = 14 := by
   simp only [Bool.and_eq_true,Bool.or_eq_true,decide_eq_true_eq] at hb
   omega
  clear hb
  rw [show bodyF p f i = areF f.slots [(i.a,0), (i.b,0), (i.c,0)] by
   unfold bodyF
   rcases o1 with e | e | e | e | e | e | e | e | e | e | e | e <;> rw [e] <;> rfl] at hQ
  simp -implicitDefEqProofs (disch := first|decide|assumption|omega|(simp -implicitDefEqProofs only [AM.RN];first|done|omega)|fail) only [↓AM.R0,AM.R1,AM.R2,Nat.reduceAdd,Nat.reduceLeDiff,Nat.reduceEqDiff,Int.reduceToNat,Nat.reduceLT,↓reduceIte,Int.reduceEq,Int.reduceLT,Int.reduceLE,gP2,gF2,gI2,gV,c1,c2,c3]
  refine AM.trCall_of (rAnd (a := []) (b := []) nilW (by simp) (by simp) i.a 0) ?_
  rintro r hm2_0 ⟨fm2_0,wr,rfl,W0⟩
  replace W0 : WantR hm2_0 wr [i.a] [0] := W0
  obtain ⟨va0,ka0,rfl,Wa0,Wb0⟩ := W0
  have cwa0 := SlIn.cellv Wa0
  have cwb0 := SlIn.cellv Wb0
  have bwa0 := SlIn.beqv Wa0
  have bwb0 := SlIn.beqv Wb0
  have n3 : h.n + 3 ≤ hm2_0.n := by have := fm2_0.n; omega
  have gP3 : hm2_0.get (h.n) = .cells 0 false [tv,gv,fv] := (fm2_0.get _ (by omega) (by simp)).trans gP2
  have gF3 : hm2_0.get (h.n + 1) = .cells 0 false [.int .i64 f.params,sv,rv,cv] := (fm2_0.get _ (by omega) (by simp)).trans gF2
  have gI3 : hm2_0.get (h.n + 1 + 1) = .cells 0 false [.int .i64 i.op, .int .i64 i.a, .int .i64 i.b, .int .i64 i.c, .int .u64 i.imm,lv] := (fm2_0.get _ (by omega) (by simp)).trans gI2
  have f03 := f02.trans fm2_0
  simp -implicitDefEqProofs (disch := first|decide|assumption|omega|(simp -implicitDefEqProofs only [AM.RN];first|done|omega)|fail) only [↓AM.R0,AM.R1,AM.R2,Nat.reduceAdd,Nat.reduceLeDiff,Nat.reduceEqDiff,Int.reduceToNat,Nat.reduceLT,↓reduceIte,Int.reduceEq,Int.reduceLT,Int.reduceLE,gP2,gF2,gI2,gP3,gF3,gI3,cwa0,cwb0,bwa0,bwb0,b1,b2,b3,b4,b5,b6,bl,bi,bp,bs,AM.sameO_some,cl,c1,c2,c3,c4,c5,c6,gV]
  refine AM.trCall_of (rAnd (a := [i.a]) (b := [0]) ⟨va0,ka0,rfl,Wa0,Wb0⟩ (by simp) (by simp) i.b 0) ?_
  rintro r hm3_1 ⟨fm3_1,wr,rfl,W1⟩
  replace W1 : WantR hm3_1 wr [i.a,i.b] [0,0] := W1
  obtain ⟨va1,ka1,rfl,Wa1,Wb1⟩ := W1
  have cwa1 := SlIn.cellv Wa1
  have cwb1 := SlIn.cellv Wb1
  have bwa1 := SlIn.beqv Wa1
  have bwb1 := SlIn.beqv Wb1
  have n4 : h.n + 3 ≤ hm3_1.n := by have := fm3_1.n; omega
  have gP4 : hm3_1.get (h.n) = .cells 0 false [tv,gv,fv] := (fm3_1.get _ (by omega) (by simp)).trans gP3
  have gF4 : hm3_1.get (h.n + 1) = .cells 0 false [.int .i64 f.params,sv,rv,cv] := (fm3_1.get _ (by omega) (by simp)).trans gF3
  have gI4 : hm3_1.get (h.n + 1 + 1) = .cells 0 false [.int .i64 i.op, .int .i64 i.a, .int .i64 i.b, .int .i64 i.c, .int .u64 i.imm,lv] := (fm3_1.get _ (by omega) (by simp)).trans gI3
  have f04 := f03.trans fm3_1
  simp -implicitDefEqProofs (disch := first|decide|assumption|omega|(simp -implicitDefEqProofs only [AM.RN];first|done|omega)|fail) only [↓AM.R0,AM.R1,AM.R2,Nat.reduceAdd,Nat.reduceLeDiff,Nat.reduceEqDiff,Int.reduceToNat,Nat.reduceLT,↓reduceIte,Int.reduceEq,Int.reduceLT,Int.reduceLE,gP2,gF2,gI2,gP3,gF3,gI3,gP4,gF4,gI4,cwa0,cwb0,bwa0,bwb0,cwa1,cwb1,bwa1,bwb1,b1,b2,b3,b4,b5,b6,bl,bi,bp,bs,AM.sameO_some,cl,c1,c2,c3,c4,c5,c6,gV]
  refine AM.trCall_of (rAnd (a := [i.a,i.b]) (b := [0,0]) ⟨va1,ka1,rfl,Wa1,Wb1⟩ (by simp) (by simp) i.c 0) ?_
  rintro r hm4_2 ⟨fm4_2,wr,rfl,W2⟩
  replace W2 : WantR hm4_2 wr [i.a,i.b,i.c] [0,0,0] := W2
  obtain ⟨va2,ka2,rfl,Wa2,Wb2⟩ := W2
  have cwa2 := SlIn.cellv Wa2
  have cwb2 := SlIn.cellv Wb2
  have bwa2 := SlIn.beqv Wa2
  have bwb2 := SlIn.beqv Wb2
  have n5 : h.n + 3 ≤ hm4_2.n := by have := fm4_2.n; omega
  have gP5 : hm4_2.get (h.n) = .cells 0 false [tv,gv,fv] := (fm4_2.get _ (by omega) (by simp)).trans gP4
  have gF5 : hm4_2.get (h.n + 1) = .cells 0 false [.int .i64 f.params,sv,rv,cv] := (fm4_2.get _ (by omega) (by simp)).trans gF4
  have gI5 : hm4_2.get (h.n + 1 + 1) = .cells 0 false [.int .i64 i.op, .int .i64 i.a, .int .i64 i.b, .int .i64 i.c, .int .u64 i.imm,lv] := (fm4_2.get _ (by omega) (by simp)).trans gI4
  have f05 := f04.trans fm4_2
  simp -implicitDefEqProofs (disch := first|decide|assumption|omega|(simp -implicitDefEqProofs only [AM.RN];first|done|omega)|fail) only [↓AM.R0,AM.R1,AM.R2,Nat.reduceAdd,Nat.reduceLeDiff,Nat.reduceEqDiff,Int.reduceToNat,Nat.reduceLT,↓reduceIte,Int.reduceEq,Int.reduceLT,Int.reduceLE,gP2,gF2,gI2,gP3,gF3,gI3,gP4,gF4,gI4,gP5,gF5,gI5,cwa0,cwb0,bwa0,bwb0,cwa1,cwb1,bwa1,bwb1,cwa2,cwb2,bwa2,bwb2,b1,b2,b3,b4,b5,b6,bl,bi,bp,bs,AM.sameO_some,cl,c1,c2,c3,c4,c5,c6,gV]
  refine AM.trCall_of (rMet (F0.keep f05) (l := [(i.a,0), (i.b,0), (i.c,0)]) ⟨va2,ka2,rfl,Wa2,Wb2⟩ (by simp)) ?_
  rintro r hm5_9 ⟨fm5_9,rfl⟩
  have n6 : h.n + 3 ≤ hm5_9.n := by have := fm5_9.n; omega
  have gP6 : hm5_9.get (h.n) = .cells 0 false [tv,gv,fv] := (fm5_9.get _ (by omega) (by simp)).trans gP5
  have gF6 : hm5_9.get (h.n + 1) = .cells 0 false [.int .i64 f.params,sv,rv,cv] := (fm5_9.get _ (by omega) (by simp)).trans gF5
  have gI6 : hm5_9.get (h.n + 1 + 1) = .cells 0 false [.int .i64 i.op, .int .i64 i.a, .int .i64 i.b, .int .i64 i.c, .int .u64 i.imm,lv] := (fm5_9.get _ (by omega) (by simp)).trans gI5
  have f06 := f05.trans fm5_9
  simp -implicitDefEqProofs (disch := first|decide|assumption|omega|(simp -implicitDefEqProofs only [AM.RN];first|done|omega)|fail) only [↓AM.R0,AM.R1,AM.R2,Nat.reduceAdd,Nat.reduceLeDiff,Nat.reduceEqDiff,Int.reduceToNat,Nat.reduceLT,↓reduceIte,Int.reduceEq,Int.reduceLT,Int.reduceLE,gP2,gF2,gI2,gP3,gF3,gI3,gP4,gF4,gI4,gP5,gF5,gI5,gP6,gF6,gI6,cwa0,cwb0,bwa0,bwb0,cwa1,cwb1,bwa1,bwb1,cwa2,cwb2,bwa2,bwb2,b1,b2,b3,b4,b5,b6,bl,bi,bp,bs,AM.sameO_some,cl,c1,c2,c3,c4,c5,c6,gV]
  subst hQ
  exact ⟨f06,rfl⟩
 simp only [Bool.and_eq_false_iff,Bool.or_eq_false_iff,decide_eq_false_iff_not] at hb
 have k0 := hb
 clear hb
 simp -implicitDefEqProofs (disch := first|decide|assumption|omega|(simp -implicitDefEqProofs only [AM.RN];first|done|omega)|fail) only [AM.RGB,↓AM.R0,AM.R1,AM.R2,Nat.reduceAdd,Nat.reduceLeDiff,Nat.reduceEqDiff,Int.reduceToNat,Nat.reduceLT,↓reduceIte,Int.reduceEq,Int.reduceLT,Int.reduceLE,gP2,gF2,gI2]
 refine AM.cI_bool (fun hb => ?_) (fun hb => ?_)
 ·have o1 : i.op = 15 ∨ i.op = 16 ∨ i.op = 17 ∨ i.op = 18 := by
   simp only [Bool.and_eq_true,Bool.or_eq_true,decide_eq_true_eq] at hb
   omega
  clear hb
  rw [show bodyF p f i = areF f.slots [(i.a,1), (i.b,1), (i.c,1)] by
   unfold bodyF
   rcases o1 with e | e | e | e <;> rw [e] <;> rfl] at hQ
  simp -implicitDefEqProofs (disch := first|decide|assumption|omega|(simp -implicitDefEqProofs only [AM.RN];first|done|omega)|fail) only [↓AM.R0,AM.R1,AM.R2,Nat.reduceAdd,Nat.reduceLeDiff,Nat.reduceEqDiff,Int.reduceToNat,Nat.reduceLT,↓reduceIte,Int.reduceEq,Int.reduceLT,Int.reduceLE,gP2,gF2,gI2,gV,c1,c2,c3]
  refine AM.trCall_of (rAnd (a := []) (b := []) nilW (by simp) (by simp) i.a 1) ?_
  rintro r hm2_0 ⟨fm2_0,wr,rfl,W0⟩
  replace W0 : WantR hm2_0 wr [i.a] [1] := W0
  obtain ⟨va0,ka0,rfl,Wa0,Wb0⟩ := W0
  have cwa0 := SlIn.cellv Wa0
  have cwb0 := SlIn.cellv Wb0
  have bwa0 := SlIn.beqv Wa0
  have bwb0 := SlIn.beqv Wb0
  have n3 : h.n + 3 ≤ hm2_0.n := by have := fm2_0.n; omega
  have gP3 : hm2_0.get (h.n) = .cells 0 false [tv,gv,fv] := (fm2_0.get _ (by omega) (by simp)).trans gP2
  have gF3 : hm2_0.get (h.n + 1) = .cells 0 false [.int .i64 f.params,sv,rv,cv] := (fm2_0.get _ (by omega) (by simp)).trans gF2
  have gI3 : hm2_0.get (h.n + 1 + 1) = .cells 0 false [.int .i64 i.op, .int .i64 i.a, .int .i64 i.b, .int .i64 i.c, .int .u64 i.imm,lv] := (fm2_0.get _ (by omega) (by simp)).trans gI2
  have f03 := f02.trans fm2_0
  simp -implicitDefEqProofs (disch := first|decide|assumption|omega|(simp -implicitDefEqProofs only [AM.RN];first|done|omega)|fail) only [↓AM.R0,AM.R1,AM.R2,Nat.reduceAdd,Nat.reduceLeDiff,Nat.reduceEqDiff,Int.reduceToNat,Nat.reduceLT,↓reduceIte,Int.reduceEq,Int.reduceLT,Int.reduceLE,gP2,gF2,gI2,gP3,gF3,gI3,cwa0,cwb0,bwa0,bwb0,b1,b2,b3,b4,b5,b6,bl,bi,bp,bs,AM.sameO_some,cl,c1,c2,c3,c4,c5,c6,gV]
  refine AM.trCall_of (rAnd (a := [i.a]) (b := [1]) ⟨va0,ka0,rfl,Wa0,Wb0⟩ (by simp) (by simp) i.b 1) ?_
  rintro r hm3_1 ⟨fm3_1,wr,rfl,W1⟩
  replace W1 : WantR hm3_1 wr [i.a,i.b] [1,1] := W1
  obtain ⟨va1,ka1,rfl,Wa1,Wb1⟩ := W1
  have cwa1 := SlIn.cellv Wa1
  have cwb1 := SlIn.cellv Wb1
  have bwa1 := SlIn.beqv Wa1
  have bwb1 := SlIn.beqv Wb1
  have n4 : h.n + 3 ≤ hm3_1.n := by have := fm3_1.n; omega
  have gP4 : hm3_1.get (h.n) = .cells 0 false [tv,gv,fv] := (fm3_1.get _ (by omega) (by simp)).trans gP3
  have gF4 : hm3_1.get (h.n + 1) = .cells 0 false [.int .i64 f.params,sv,rv,cv] := (fm3_1.get _ (by omega) (by simp)).trans gF3
  have gI4 : hm3_1.get (h.n + 1 + 1) = .cells 0 false [.int .i64 i.op, .int .i64 i.a, .int .i64 i.b, .int .i64 i.c, .int .u64 i.imm,lv] := (fm3_1.get _ (by omega) (by simp)).trans gI3
  have f04 := f03.trans fm3_1
  simp -implicitDefEqProofs (disch := first|decide|assumption|omega|(simp -implicitDefEqProofs only [AM.RN];first|done|omega)|fail) only [↓AM.R0,AM.R1,AM.R2,Nat.reduceAdd,Nat.reduceLeDiff,Nat.reduceEqDiff,Int.reduceToNat,Nat.reduceLT,↓reduceIte,Int.reduceEq,Int.reduceLT,Int.reduceLE,gP2,gF2,gI2,gP3,gF3,gI3,gP4,gF4,gI4,cwa0,cwb0,bwa0,bwb0,cwa1,cwb1,bwa1,bwb1,b1,b2,b3,b4,b5,b6,bl,bi,bp,bs,AM.sameO_some,cl,c1,c2,c3,c4,c5,c6,gV]
  refine AM.trCall_of (rAnd (a := [i.a,i.b]) (b := [1,1]) ⟨va1,ka1,rfl,Wa1,Wb1⟩ (by simp) (by simp) i.c 1) ?_
  rintro r hm4_2 ⟨fm4_2,wr,rfl,W2⟩
  replace W2 : WantR hm4_2 wr [i.a,i.b,i.c] [1,1,1] := W2
  obtain ⟨va2,ka2,rfl,Wa2,Wb2⟩ := W2
  have cwa2 := SlIn.cellv Wa2
  have cwb2 := SlIn.cellv Wb2
  have bwa2 := SlIn.beqv Wa2
  have bwb2 := SlIn.beqv Wb2
  have n5 : h.n + 3 ≤ hm4_2.n := by have := fm4_2.n; omega
  have gP5 : hm4_2.get (h.n) = .cells 0 false [tv,gv,fv] := (fm4_2.get _ (by omega) (by simp)).trans gP4
  have gF5 : hm4_2.get (h.n + 1) = .cells 0 false [.int .i64 f.params,sv,rv,cv] := (fm4_2.get _ (by omega) (by simp)).trans gF4
  have gI5 : hm4_2.get (h.n + 1 + 1) = .cells 0 false [.int .i64 i.op, .int .i64 i.a, .int .i64 i.b, .int .i64 i.c, .int .u64 i.imm,lv] := (fm4_2.get _ (by omega) (by simp)).trans gI4
  have f05 := f04.trans fm4_2
  simp -implicitDefEqProofs (disch := first|decide|assumption|omega|(simp -implicitDefEqProofs only [AM.RN];first|done|omega)|fail) only [↓AM.R0,AM.R1,AM.R2,Nat.reduceAdd,Nat.reduceLeDiff,Nat.reduceEqDiff,Int.reduceToNat,Nat.reduceLT,↓reduceIte,Int.reduceEq,Int.reduceLT,Int.reduceLE,gP2,gF2,gI2,gP3,gF3,gI3,gP4,gF4,gI4,gP5,gF5,gI5,cwa0,cwb0,bwa0,bwb0,cwa1,cwb1,bwa1,bwb1,cwa2,cwb2,bwa2,bwb2,b1,b2,b3,b4,b5,b6,bl,bi,bp,bs,AM.sameO_some,cl,c1,c2,c3,c4,c5,c6,gV]
  refine AM.trCall_of (rMet (F0.keep f05) (l := [(i.a,1), (i.b,1), (i.c,1)]) ⟨va2,ka2,rfl,Wa2,Wb2⟩ (by simp)) ?_
  rintro r hm5_9 ⟨fm5_9,rfl⟩
  have n6 : h.n + 3 ≤ hm5_9.n := by have := fm5_9.n; omega
  have gP6 : hm5_9.get (h.n) = .cells 0 false [tv,gv,fv] := (fm5_9.get _ (by omega) (by simp)).trans gP5
  have gF6 : hm5_9.get (h.n + 1) = .cells 0 false [.int .i64 f.params,sv,rv,cv] := (fm5_9.get _ (by omega) (by simp)).trans gF5
  have gI6 : hm5_9.get (h.n + 1 + 1) = .cells 0 false [.int .i64 i.op, .int .i64 i.a, .int .i64 i.b, .int .i64 i.c, .int .u64 i.imm,lv] := (fm5_9.get _ (by omega) (by simp)).trans gI5
  have f06 := f05.trans fm5_9
  simp -implicitDefEqProofs (disch := first|decide|assumption|omega|(simp -implicitDefEqProofs only [AM.RN];first|done|omega)|fail) only [↓AM.R0,AM.R1,AM.R2,Nat.reduceAdd,Nat.reduceLeDiff,Nat.reduceEqDiff,Int.reduceToNat,Nat.reduceLT,↓reduceIte,Int.reduceEq,Int.reduceLT,Int.reduceLE,gP2,gF2,gI2,gP3,gF3,gI3,gP4,gF4,gI4,gP5,gF5,gI5,gP6,gF6,gI6,cwa0,cwb0,bwa0,bwb0,cwa1,cwb1,bwa1,bwb1,cwa2,cwb2,bwa2,bwb2,b1,b2,b3,b4,b5,b6,bl,bi,bp,bs,AM.sameO_some,cl,c1,c2,c3,c4,c5,c6,gV]
  subst hQ
  exact ⟨f06,rfl⟩
 simp only [Bool.and_eq_false_iff,Bool.or_eq_false_iff,decide_eq_false_iff_not] at hb
 have k1 := hb
 clear hb
 simp -implicitDefEqProofs (disch := first|decide|assumption|omega|(simp -implicitDefEqProofs only [AM.RN];first|done|omega)|fail) only [AM.RGB,↓AM.R0,AM.R1,AM.R2,Nat.reduceAdd,Nat.reduceLeDiff,Nat.reduceEqDiff,Int.reduceToNat,Nat.reduceLT,↓reduceIte,Int.reduceEq,Int.reduceLT,Int.reduceLE,gP2,gF2,gI2]
 refine AM.cI_bool (fun hb => ?_) (fun hb => ?_)
 ·have o1 : i.op = 19 ∨ i.op = 20 := by
   simp only [Bool.and_eq_true,Bool.or_eq_true,decide_eq_true_eq] at hb
   omega
  clear hb
  rw [show bodyF p f i = areF f.slots [(i.a,0), (i.b,1), (i.c,1)] by
   unfold bodyF
   rcases o1 with e | e <;> rw [e] <;> rfl] at hQ
  simp -implicitDefEqProofs (disch := first|decide|assumption|omega|(simp -implicitDefEqProofs only [AM.RN];first|done|omega)|fail) only [↓AM.R0,AM.R1,AM.R2,Nat.reduceAdd,Nat.reduceLeDiff,Nat.reduceEqDiff,Int.reduceToNat,Nat.reduceLT,↓reduceIte,Int.reduceEq,Int.reduceLT,Int.reduceLE,gP2,gF2,gI2,gV,c1,c2,c3]
  refine AM.trCall_of (rAnd (a := []) (b := []) nilW (by simp) (by simp) i.a 0) ?_
  rintro r hm2_0 ⟨fm2_0,wr,rfl,W0⟩
  replace W0 : WantR hm2_0 wr [i.a] [0] := W0
  obtain ⟨va0,ka0,rfl,Wa0,Wb0⟩ := W0
  have cwa0 := SlIn.cellv Wa0
  have cwb0 := SlIn.cellv Wb0
  have bwa0 := SlIn.beqv Wa0
  have bwb0 := SlIn.beqv Wb0
  have n3 : h.n + 3 ≤ hm2_0.n := by have := fm2_0.n; omega
  have gP3 : hm2_0.get (h.n) = .cells 0 false [tv,gv,fv] := (fm2_0.get _ (by omega) (by simp)).trans gP2
  have gF3 : hm2_0.get (h.n + 1) = .cells 0 false [.int .i64 f.params,sv,rv,cv] := (fm2_0.get _ (by omega) (by simp)).trans gF2
  have gI3 : hm2_0.get (h.n + 1 + 1) = .cells 0 false [.int .i64 i.op, .int .i64 i.a, .int .i64 i.b, .int .i64 i.c, .int .u64 i.imm,lv] := (fm2_0.get _ (by omega) (by simp)).trans gI2
  have f03 := f02.trans fm2_0
  simp -implicitDefEqProofs (disch := first|decide|assumption|omega|(simp -implicitDefEqProofs only [AM.RN];first|done|omega)|fail) only [↓AM.R0,AM.R1,AM.R2,Nat.reduceAdd,Nat.reduceLeDiff,Nat.reduceEqDiff,Int.reduceToNat,Nat.reduceLT,↓reduceIte,Int.reduceEq,Int.reduceLT,Int.reduceLE,gP2,gF2,gI2,gP3,gF3,gI3,cwa0,cwb0,bwa0,bwb0,b1,b2,b3,b4,b5,b6,bl,bi,bp,bs,AM.sameO_some,cl,c1,c2,c3,c4,c5,c6,gV]
  refine AM.trCall_of (rAnd (a := [i.a]) (b := [0]) ⟨va0,ka0,rfl,Wa0,Wb0⟩ (by simp) (by simp) i.b 1) ?_
  rintro r hm3_1 ⟨fm3_1,wr,rfl,W1⟩
  replace W1 : WantR hm3_1 wr [i.a,i.b] [0,1] := W1
  obtain ⟨va1,ka1,rfl,Wa1,Wb1⟩ := W1
  have cwa1 := SlIn.cellv Wa1
  have cwb1 := SlIn.cellv Wb1
  have bwa1 := SlIn.beqv Wa1
  have bwb1 := SlIn.beqv Wb1
  have n4 : h.n + 3 ≤ hm3_1.n := by have := fm3_1.n; omega
  have gP4 : hm3_1.get (h.n) = .cells 0 false [tv,gv,fv] := (fm3_1.get _ (by omega) (by simp)).trans gP3
  have gF4 : hm3_1.get (h.n + 1) = .cells 0 false [.int .i64 f.params,sv,rv,cv] := (fm3_1.get _ (by omega) (by simp)).trans gF3
  have gI4 : hm3_1.get (h.n + 1 + 1) = .cells 0 false [.int .i64 i.op, .int .i64 i.a, .int .i64 i.b, .int .i64 i.c, .int .u64 i.imm,lv] := (fm3_1.get _ (by omega) (by simp)).trans gI3
  have f04 := f03.trans fm3_1
  simp -implicitDefEqProofs (disch := first|decide|assumption|omega|(simp -implicitDefEqProofs only [AM.RN];first|done|omega)|fail) only [↓AM.R0,AM.R1,AM.R2,Nat.reduceAdd,Nat.reduceLeDiff,Nat.reduceEqDiff,Int.reduceToNat,Nat.reduceLT,↓reduceIte,Int.reduceEq,Int.reduceLT,Int.reduceLE,gP2,gF2,gI2,gP3,gF3,gI3,gP4,gF4,gI4,cwa0,cwb0,bwa0,bwb0,cwa1,cwb1,bwa1,bwb1,b1,b2,b3,b4,b5,b6,bl,bi,bp,bs,AM.sameO_some,cl,c1,c2,c3,c4,c5,c6,gV]
  refine AM.trCall_of (rAnd (a := [i.a,i.b]) (b := [0,1]) ⟨va1,ka1,rfl,Wa1,Wb1⟩ (by simp) (by simp) i.c 1) ?_
  rintro r hm4_2 ⟨fm4_2,wr,rfl,W2⟩
  replace W2 : WantR hm4_2 wr [i.a,i.b,i.c] [0,1,1] := W2
  obtain ⟨va2,ka2,rfl,Wa2,Wb2⟩ := W2
  have cwa2 := SlIn.cellv Wa2
  have cwb2 := SlIn.cellv Wb2
  have bwa2 := SlIn.beqv Wa2
  have bwb2 := SlIn.beqv Wb2
  have n5 : h.n + 3 ≤ hm4_2.n := by have := fm4_2.n; omega
  have gP5 : hm4_2.get (h.n) = .cells 0 false [tv,gv,fv] := (fm4_2.get _ (by omega) (by simp)).trans gP4
  have gF5 : hm4_2.get (h.n + 1) = .cells 0 false [.int .i64 f.params,sv,rv,cv] := (fm4_2.get _ (by omega) (by simp)).trans gF4
  have gI5 : hm4_2.get (h.n + 1 + 1) = .cells 0 false [.int .i64 i.op, .int .i64 i.a, .int .i64 i.b, .int .i64 i.c, .int .u64 i.imm,lv] := (fm4_2.get _ (by omega) (by simp)).trans gI4
  have f05 := f04.trans fm4_2
  simp -implicitDefEqProofs (disch := first|decide|assumption|omega|(simp -implicitDefEqProofs only [AM.RN];first|done|omega)|fail) only [↓AM.R0,AM.R1,AM.R2,Nat.reduceAdd,Nat.reduceLeDiff,Nat.reduceEqDiff,Int.reduceToNat,Nat.reduceLT,↓reduceIte,Int.reduceEq,Int.reduceLT,Int.reduceLE,gP2,gF2,gI2,gP3,gF3,gI3,gP4,gF4,gI4,gP5,gF5,gI5,cwa0,cwb0,bwa0,bwb0,cwa1,cwb1,bwa1,bwb1,cwa2,cwb2,bwa2,bwb2,b1,b2,b3,b4,b5,b6,bl,bi,bp,bs,AM.sameO_some,cl,c1,c2,c3,c4,c5,c6,gV]
  refine AM.trCall_of (rMet (F0.keep f05) (l := [(i.a,0), (i.b,1), (i.c,1)]) ⟨va2,ka2,rfl,Wa2,Wb2⟩ (by simp)) ?_
  rintro r hm5_9 ⟨fm5_9,rfl⟩
  have n6 : h.n + 3 ≤ hm5_9.n := by have := fm5_9.n; omega
  have gP6 : hm5_9.get (h.n) = .cells 0 false [tv,gv,fv] := (fm5_9.get _ (by omega) (by simp)).trans gP5
  have gF6 : hm5_9.get (h.n + 1) = .cells 0 false [.int .i64 f.params,sv,rv,cv] := (fm5_9.get _ (by omega) (by simp)).trans gF5
  have gI6 : hm5_9.get (h.n + 1 + 1) = .cells 0 false [.int .i64 i.op, .int .i64 i.a, .int .i64 i.b, .int .i64 i.c, .int .u64 i.imm,lv] := (fm5_9.get _ (by omega) (by simp)).trans gI5
  have f06 := f05.trans fm5_9
  simp -implicitDefEqProofs (disch := first|decide|assumption|omega|(simp -implicitDefEqProofs only [AM.RN];first|done|omega)|fail) only [↓AM.R0,AM.R1,AM.R2,Nat.reduceAdd,Nat.reduceLeDiff,Nat.reduceEqDiff,Int.reduceToNat,Nat.reduceLT,↓reduceIte,Int.reduceEq,Int.reduceLT,Int.reduceLE,gP2,gF2,gI2,gP3,gF3,gI3,gP4,gF4,gI4,gP5,gF5,gI5,gP6,gF6,gI6,cwa0,cwb0,bwa0,bwb0,cwa1,cwb1,bwa1,bwb1,cwa2,cwb2,bwa2,bwb2,b1,b2,b3,b4,b5,b6,bl,bi,bp,bs,AM.sameO_some,cl,c1,c2,c3,c4,c5,c6,gV]
  subst hQ
  exact ⟨f06,rfl⟩
 simp only [Bool.and_eq_false_iff,Bool.or_eq_false_iff,decide_eq_false_iff_not] at hb
 have k2 := hb
 clear hb
 simp -implicitDefEqProofs (disch := first|decide|assumption|omega|(simp -implicitDefEqProofs only [AM.RN];first|done|omega)|fail) only [AM.RGB,↓AM.R0,AM.R1,AM.R2,Nat.reduceAdd,Nat.reduceLeDiff,Nat.reduceEqDiff,Int.reduceToNat,Nat.reduceLT,↓reduceIte,Int.reduceEq,Int.reduceLT,Int.reduceLE,gP2,gF2,gI2]
 refine AM.cI_bool (fun hb => ?_) (fun hb => ?_)
 ·have o1 : i.op = 21 := by
   simp only [Bool.and_eq_true,Bool.or_eq_true,decide_eq_true_eq] at hb
   omega
  clear hb
  rw [show bodyF p f i = areF f.slots [(i.a,1), (i.b,0)] by
   unfold bodyF
   rw [o1]; rfl] at hQ
  simp -implicitDefEqProofs (disch := first|decide|assumption|omega|(simp -implicitDefEqProofs only [AM.RN];first|done|omega)|fail) only [↓AM.R0,AM.R1,AM.R2,Nat.reduceAdd,Nat.reduceLeDiff,Nat.reduceEqDiff,Int.reduceToNat,Nat.reduceLT,↓reduceIte,Int.reduceEq,Int.reduceLT,Int.reduceLE,gP2,gF2,gI2,gV,c1,c2,c3]
  refine AM.trCall_of (rAnd (a := []) (b := []) nilW (by simp) (by simp) i.a 1) ?_
  rintro r hm2_0 ⟨fm2_0,wr,rfl,W0⟩
  replace W0 : WantR hm2_0 wr [i.a] [1] := W0
  obtain ⟨va0,ka0,rfl,Wa0,Wb0⟩ := W0
  have cwa0 := SlIn.cellv Wa0
  have cwb0 := SlIn.cellv Wb0
  have bwa0 := SlIn.beqv Wa0
  have bwb0 := SlIn.beqv Wb0
  have n3 : h.n + 3 ≤ hm2_0.n := by have := fm2_0.n; omega
  have gP3 : hm2_0.get (h.n) = .cells 0 false [tv,gv,fv] := (fm2_0.get _ (by omega) (by simp)).trans gP2
  have gF3 : hm2_0.get (h.n + 1) = .cells 0 false [.int .i64 f.params,sv,rv,cv] := (fm2_0.get _ (by omega) (by simp)).trans gF2
  have gI3 : hm2_0.get (h.n + 1 + 1) = .cells 0 false [.int .i64 i.op, .int .i64 i.a, .int .i64 i.b, .int .i64 i.c, .int .u64 i.imm,lv] := (fm2_0.get _ (by omega) (by simp)).trans gI2
  have f03 := f02.trans fm2_0
  simp -implicitDefEqProofs (disch := first|decide|assumption|omega|(simp -implicitDefEqProofs only [AM.RN];first|done|omega)|fail) only [↓AM.R0,AM.R1,AM.R2,Nat.reduceAdd,Nat.reduceLeDiff,Nat.reduceEqDiff,Int.reduceToNat,Nat.reduceLT,↓reduceIte,Int.reduceEq,Int.reduceLT,Int.reduceLE,gP2,gF2,gI2,gP3,gF3,gI3,cwa0,cwb0,bwa0,bwb0,b1,b2,b3,b4,b5,b6,bl,bi,bp,bs,AM.sameO_some,cl,c1,c2,c3,c4,c5,c6,gV]
  refine AM.trCall_of (rAnd (a := [i.a]) (b := [1]) ⟨va0,ka0,rfl,Wa0,Wb0⟩ (by simp) (by simp) i.b 0) ?_
  rintro r hm3_1 ⟨fm3_1,wr,rfl,W1⟩
  replace W1 : WantR hm3_1 wr [i.a,i.b] [1,0] := W1
  obtain ⟨va1,ka1,rfl,Wa1,Wb1⟩ := W1
  have cwa1 := SlIn.cellv Wa1
  have cwb1 := SlIn.cellv Wb1
  have bwa1 := SlIn.beqv Wa1
  have bwb1 := SlIn.beqv Wb1
  have n4 : h.n + 3 ≤ hm3_1.n := by have := fm3_1.n; omega
  have gP4 : hm3_1.get (h.n) = .cells 0 false [tv,gv,fv] := (fm3_1.get _ (by omega) (by simp)).trans gP3
  have gF4 : hm3_1.get (h.n + 1) = .cells 0 false [.int .i64 f.params,sv,rv,cv] := (fm3_1.get _ (by omega) (by simp)).trans gF3
  have gI4 : hm3_1.get (h.n + 1 + 1) = .cells 0 false [.int .i64 i.op, .int .i64 i.a, .int .i64 i.b, .int .i64 i.c, .int .u64 i.imm,lv] := (fm3_1.get _ (by omega) (by simp)).trans gI3
  have f04 := f03.trans fm3_1
  simp -implicitDefEqProofs (disch := first|decide|assumption|omega|(simp -implicitDefEqProofs only [AM.RN];first|done|omega)|fail) only [↓AM.R0,AM.R1,AM.R2,Nat.reduceAdd,Nat.reduceLeDiff,Nat.reduceEqDiff,Int.reduceToNat,Nat.reduceLT,↓reduceIte,Int.reduceEq,Int.reduceLT,Int.reduceLE,gP2,gF2,gI2,gP3,gF3,gI3,gP4,gF4,gI4,cwa0,cwb0,bwa0,bwb0,cwa1,cwb1,bwa1,bwb1,b1,b2,b3,b4,b5,b6,bl,bi,bp,bs,AM.sameO_some,cl,c1,c2,c3,c4,c5,c6,gV]
  refine AM.trCall_of (rMet (F0.keep f04) (l := [(i.a,1), (i.b,0)]) ⟨va1,ka1,rfl,Wa1,Wb1⟩ (by simp)) ?_
  rintro r hm4_9 ⟨fm4_9,rfl⟩
  have n5 : h.n + 3 ≤ hm4_9.n := by have := fm4_9.n; omega
  have gP5 : hm4_9.get (h.n) = .cells 0 false [tv,gv,fv] := (fm4_9.get _ (by omega) (by simp)).trans gP4
  have gF5 : hm4_9.get (h.n + 1) = .cells 0 false [.int .i64 f.params,sv,rv,cv] := (fm4_9.get _ (by omega) (by simp)).trans gF4
  have gI5 : hm4_9.get (h.n + 1 + 1) = .cells 0 false [.int .i64 i.op, .int .i64 i.a, .int .i64 i.b, .int .i64 i.c, .int .u64 i.imm,lv] := (fm4_9.get _ (by omega) (by simp)).trans gI4
  have f05 := f04.trans fm4_9
  simp -implicitDefEqProofs (disch := first|decide|assumption|omega|(simp -implicitDefEqProofs only [AM.RN];first|done|omega)|fail) only [↓AM.R0,AM.R1,AM.R2,Nat.reduceAdd,Nat.reduceLeDiff,Nat.reduceEqDiff,Int.reduceToNat,Nat.reduceLT,↓reduceIte,Int.reduceEq,Int.reduceLT,Int.reduceLE,gP2,gF2,gI2,gP3,gF3,gI3,gP4,gF4,gI4,gP5,gF5,gI5,cwa0,cwb0,bwa0,bwb0,cwa1,cwb1,bwa1,bwb1,b1,b2,b3,b4,b5,b6,bl,bi,bp,bs,AM.sameO_some,cl,c1,c2,c3,c4,c5,c6,gV]
  subst hQ
  exact ⟨f05,rfl⟩
 simp only [Bool.and_eq_false_iff,Bool.or_eq_false_iff,decide_eq_false_iff_not] at hb
 have k3 := hb
 clear hb
 simp -implicitDefEqProofs (disch := first|decide|assumption|omega|(simp -implicitDefEqProofs only [AM.RN];first|done|omega)|fail) only [AM.RGB,↓AM.R0,AM.R1,AM.R2,Nat.reduceAdd,Nat.reduceLeDiff,Nat.reduceEqDiff,Int.reduceToNat,Nat.reduceLT,↓reduceIte,Int.reduceEq,Int.reduceLT,Int.reduceLE,gP2,gF2,gI2]
 refine AM.cI_bool (fun hb => ?_) (fun hb => ?_)
 ·have o1 : i.op = 22 := by
   simp only [Bool.and_eq_true,Bool.or_eq_true,decide_eq_true_eq] at hb
   omega
  clear hb
  rw [show bodyF p f i = areF f.slots [(i.a,0), (i.b,1)] by
   unfold bodyF
   rw [o1]; rfl] at hQ
  simp -implicitDefEqProofs (disch := first|decide|assumption|omega|(simp -implicitDefEqProofs only [AM.RN];first|done|omega)|fail) only [↓AM.R0,AM.R1,AM.R2,Nat.reduceAdd,Nat.reduceLeDiff,Nat.reduceEqDiff,Int.reduceToNat,Nat.reduceLT,↓reduceIte,Int.reduceEq,Int.reduceLT,Int.reduceLE,gP2,gF2,gI2,gV,c1,c2,c3]
  refine AM.trCall_of (rAnd (a := []) (b := []) nilW (by simp) (by simp) i.a 0) ?_
  rintro r hm2_0 ⟨fm2_0,wr,rfl,W0⟩
  replace W0 : WantR hm2_0 wr [i.a] [0] := W0
  obtain ⟨va0,ka0,rfl,Wa0,Wb0⟩ := W0
  have cwa0 := SlIn.cellv Wa0
  have cwb0 := SlIn.cellv Wb0
  have bwa0 := SlIn.beqv Wa0
  have bwb0 := SlIn.beqv Wb0
  have n3 : h.n + 3 ≤ hm2_0.n := by have := fm2_0.n; omega
  have gP3 : hm2_0.get (h.n) = .cells 0 false [tv,gv,fv] := (fm2_0.get _ (by omega) (by simp)).trans gP2
  have gF3 : hm2_0.get (h.n + 1) = .cells 0 false [.int .i64 f.params,sv,rv,cv] := (fm2_0.get _ (by omega) (by simp)).trans gF2
  have gI3 : hm2_0.get (h.n + 1 + 1) = .cells 0 false [.int .i64 i.op, .int .i64 i.a, .int .i64 i.b, .int .i64 i.c, .int .u64 i.imm,lv] := (fm2_0.get _ (by omega) (by simp)).trans gI2
  have f03 := f02.trans fm2_0
  simp -implicitDefEqProofs (disch := first|decide|assumption|omega|(simp -implicitDefEqProofs only [AM.RN];first|done|omega)|fail) only [↓AM.R0,AM.R1,AM.R2,Nat.reduceAdd,Nat.reduceLeDiff,Nat.reduceEqDiff,Int.reduceToNat,Nat.reduceLT,↓reduceIte,Int.reduceEq,Int.reduceLT,Int.reduceLE,gP2,gF2,gI2,gP3,gF3,gI3,cwa0,cwb0,bwa0,bwb0,b1,b2,b3,b4,b5,b6,bl,bi,bp,bs,AM.sameO_some,cl,c1,c2,c3,c4,c5,c6,gV]
  refine AM.trCall_of (rAnd (a := [i.a]) (b := [0]) ⟨va0,ka0,rfl,Wa0,Wb0⟩ (by simp) (by simp) i.b 1) ?_
  rintro r hm3_1 ⟨fm3_1,wr,rfl,W1⟩
  replace W1 : WantR hm3_1 wr [i.a,i.b] [0,1] := W1
  obtain ⟨va1,ka1,rfl,Wa1,Wb1⟩ := W1
  have cwa1 := SlIn.cellv Wa1
  have cwb1 := SlIn.cellv Wb1
  have bwa1 := SlIn.beqv Wa1
  have bwb1 := SlIn.beqv Wb1
  have n4 : h.n + 3 ≤ hm3_1.n := by have := fm3_1.n; omega
  have gP4 : hm3_1.get (h.n) = .cells 0 false [tv,gv,fv] := (fm3_1.get _ (by omega) (by simp)).trans gP3
  have gF4 : hm3_1.get (h.n + 1) = .cells 0 false [.int .i64 f.params,sv,rv,cv] := (fm3_1.get _ (by omega) (by simp)).trans gF3
  have gI4 : hm3_1.get (h.n + 1 + 1) = .cells 0 false [.int .i64 i.op, .int .i64 i.a, .int .i64 i.b, .int .i64 i.c, .int .u64 i.imm,lv] := (fm3_1.get _ (by omega) (by simp)).trans gI3
  have f04 := f03.trans fm3_1
  simp -implicitDefEqProofs (disch := first|decide|assumption|omega|(simp -implicitDefEqProofs only [AM.RN];first|done|omega)|fail) only [↓AM.R0,AM.R1,AM.R2,Nat.reduceAdd,Nat.reduceLeDiff,Nat.reduceEqDiff,Int.reduceToNat,Nat.reduceLT,↓reduceIte,Int.reduceEq,Int.reduceLT,Int.reduceLE,gP2,gF2,gI2,gP3,gF3,gI3,gP4,gF4,gI4,cwa0,cwb0,bwa0,bwb0,cwa1,cwb1,bwa1,bwb1,b1,b2,b3,b4,b5,b6,bl,bi,bp,bs,AM.sameO_some,cl,c1,c2,c3,c4,c5,c6,gV]
  refine AM.trCall_of (rMet (F0.keep f04) (l := [(i.a,0), (i.b,1)]) ⟨va1,ka1,rfl,Wa1,Wb1⟩ (by simp)) ?_
  rintro r hm4_9 ⟨fm4_9,rfl⟩
  have n5 : h.n + 3 ≤ hm4_9.n := by have := fm4_9.n; omega
  have gP5 : hm4_9.get (h.n) = .cells 0 false [tv,gv,fv] := (fm4_9.get _ (by omega) (by simp)).trans gP4
  have gF5 : hm4_9.get (h.n + 1) = .cells 0 false [.int .i64 f.params,sv,rv,cv] := (fm4_9.get _ (by omega) (by simp)).trans gF4
  have gI5 : hm4_9.get (h.n + 1 + 1) = .cells 0 false [.int .i64 i.op, .int .i64 i.a, .int .i64 i.b, .int .i64 i.c, .int .u64 i.imm,lv] := (fm4_9.get _ (by omega) (by simp)).trans gI4
  have f05 := f04.trans fm4_9
  simp -implicitDefEqProofs (disch := first|decide|assumption|omega|(simp -implicitDefEqProofs only [AM.RN];first|done|omega)|fail) only [↓AM.R0,AM.R1,AM.R2,Nat.reduceAdd,Nat.reduceLeDiff,Nat.reduceEqDiff,Int.reduceToNat,Nat.reduceLT,↓reduceIte,Int.reduceEq,Int.reduceLT,Int.reduceLE,gP2,gF2,gI2,gP3,gF3,gI3,gP4,gF4,gI4,gP5,gF5,gI5,cwa0,cwb0,bwa0,bwb0,cwa1,cwb1,bwa1,bwb1,b1,b2,b3,b4,b5,b6,bl,bi,bp,bs,AM.sameO_some,cl,c1,c2,c3,c4,c5,c6,gV]
  subst hQ
  exact ⟨f05,rfl⟩
 simp only [Bool.and_eq_false_iff,Bool.or_eq_false_iff,decide_eq_false_iff_not] at hb
 have k4 := hb
 clear hb
 simp -implicitDefEqProofs (disch := first|decide|assumption|omega|(simp -implicitDefEqProofs only [AM.RN];first|done|omega)|fail) only [AM.RGB,↓AM.R0,AM.R1,AM.R2,Nat.reduceAdd,Nat.reduceLeDiff,Nat.reduceEqDiff,Int.reduceToNat,Nat.reduceLT,↓reduceIte,Int.reduceEq,Int.reduceLT,Int.reduceLE,gP2,gF2,gI2]
 refine AM.cI_bool (fun hb => ?_) (fun hb => ?_)
 ·have o1 : i.op = 40 := by
   simp only [Bool.and_eq_true,Bool.or_eq_true,decide_eq_true_eq] at hb
   omega
  clear hb
  rw [show bodyF p f i = areF f.slots [(i.a,0), (i.b,0)] by
   unfold bodyF
   rw [o1]; rfl] at hQ
  simp -implicitDefEqProofs (disch := first|decide|assumption|omega|(simp -implicitDefEqProofs only [AM.RN];first|done|omega)|fail) only [↓AM.R0,AM.R1,AM.R2,Nat.reduceAdd,Nat.reduceLeDiff,Nat.reduceEqDiff,Int.reduceToNat,Nat.reduceLT,↓reduceIte,Int.reduceEq,Int.reduceLT,Int.reduceLE,gP2,gF2,gI2,gV,c1,c2,c3]
  refine AM.trCall_of (rAnd (a := []) (b := []) nilW (by simp) (by simp) i.a 0) ?_
  rintro r hm2_0 ⟨fm2_0,wr,rfl,W0⟩
  replace W0 : WantR hm2_0 wr [i.a] [0] := W0
  obtain ⟨va0,ka0,rfl,Wa0,Wb0⟩ := W0
  have cwa0 := SlIn.cellv Wa0
  have cwb0 := SlIn.cellv Wb0
  have bwa0 := SlIn.beqv Wa0
  have bwb0 := SlIn.beqv Wb0
  have n3 : h.n + 3 ≤ hm2_0.n := by have := fm2_0.n; omega
  have gP3 : hm2_0.get (h.n) = .cells 0 false [tv,gv,fv] := (fm2_0.get _ (by omega) (by simp)).trans gP2
  have gF3 : hm2_0.get (h.n + 1) = .cells 0 false [.int .i64 f.params,sv,rv,cv] := (fm2_0.get _ (by omega) (by simp)).trans gF2
  have gI3 : hm2_0.get (h.n + 1 + 1) = .cells 0 false [.int .i64 i.op, .int .i64 i.a, .int .i64 i.b, .int .i64 i.c, .int .u64 i.imm,lv] := (fm2_0.get _ (by omega) (by simp)).trans gI2
  have f03 := f02.trans fm2_0
  simp -implicitDefEqProofs (disch := first|decide|assumption|omega|(simp -implicitDefEqProofs only [AM.RN];first|done|omega)|fail) only [↓AM.R0,AM.R1,AM.R2,Nat.reduceAdd,Nat.reduceLeDiff,Nat.reduceEqDiff,Int.reduceToNat,Nat.reduceLT,↓reduceIte,Int.reduceEq,Int.reduceLT,Int.reduceLE,gP2,gF2,gI2,gP3,gF3,gI3,cwa0,cwb0,bwa0,bwb0,b1,b2,b3,b4,b5,b6,bl,bi,bp,bs,AM.sameO_some,cl,c1,c2,c3,c4,c5,c6,gV]
  refine AM.trCall_of (rAnd (a := [i.a]) (b := [0]) ⟨va0,ka0,rfl,Wa0,Wb0⟩ (by simp) (by simp) i.b 0) ?_
  rintro r hm3_1 ⟨fm3_1,wr,rfl,W1⟩
  replace W1 : WantR hm3_1 wr [i.a,i.b] [0,0] := W1
  obtain ⟨va1,ka1,rfl,Wa1,Wb1⟩ := W1
  have cwa1 := SlIn.cellv Wa1
  have cwb1 := SlIn.cellv Wb1
  have bwa1 := SlIn.beqv Wa1
  have bwb1 := SlIn.beqv Wb1
  have n4 : h.n + 3 ≤ hm3_1.n := by have := fm3_1.n; omega
  have gP4 : hm3_1.get (h.n) = .cells 0 false [tv,gv,fv] := (fm3_1.get _ (by omega) (by simp)).trans gP3
  have gF4 : hm3_1.get (h.n + 1) = .cells 0 false [.int .i64 f.params,sv,rv,cv] := (fm3_1.get _ (by omega) (by simp)).trans gF3
  have gI4 : hm3_1.get (h.n + 1 + 1) = .cells 0 false [.int .i64 i.op, .int .i64 i.a, .int .i64 i.b, .int .i64 i.c, .int .u64 i.imm,lv] := (fm3_1.get _ (by omega) (by simp)).trans gI3
  have f04 := f03.trans fm3_1
  simp -implicitDefEqProofs (disch := first|decide|assumption|omega|(simp -implicitDefEqProofs only [AM.RN];first|done|omega)|fail) only [↓AM.R0,AM.R1,AM.R2,Nat.reduceAdd,Nat.reduceLeDiff,Nat.reduceEqDiff,Int.reduceToNat,Nat.reduceLT,↓reduceIte,Int.reduceEq,Int.reduceLT,Int.reduceLE,gP2,gF2,gI2,gP3,gF3,gI3,gP4,gF4,gI4,cwa0,cwb0,bwa0,bwb0,cwa1,cwb1,bwa1,bwb1,b1,b2,b3,b4,b5,b6,bl,bi,bp,bs,AM.sameO_some,cl,c1,c2,c3,c4,c5,c6,gV]
  refine AM.trCall_of (rMet (F0.keep f04) (l := [(i.a,0), (i.b,0)]) ⟨va1,ka1,rfl,Wa1,Wb1⟩ (by simp)) ?_
  rintro r hm4_9 ⟨fm4_9,rfl⟩
  have n5 : h.n + 3 ≤ hm4_9.n := by have := fm4_9.n; omega
  have gP5 : hm4_9.get (h.n) = .cells 0 false [tv,gv,fv] := (fm4_9.get _ (by omega) (by simp)).trans gP4
  have gF5 : hm4_9.get (h.n + 1) = .cells 0 false [.int .i64 f.params,sv,rv,cv] := (fm4_9.get _ (by omega) (by simp)).trans gF4
  have gI5 : hm4_9.get (h.n + 1 + 1) = .cells 0 false [.int .i64 i.op, .int .i64 i.a, .int .i64 i.b, .int .i64 i.c, .int .u64 i.imm,lv] := (fm4_9.get _ (by omega) (by simp)).trans gI4
  have f05 := f04.trans fm4_9
  simp -implicitDefEqProofs (disch := first|decide|assumption|omega|(simp -implicitDefEqProofs only [AM.RN];first|done|omega)|fail) only [↓AM.R0,AM.R1,AM.R2,Nat.reduceAdd,Nat.reduceLeDiff,Nat.reduceEqDiff,Int.reduceToNat,Nat.reduceLT,↓reduceIte,Int.reduceEq,Int.reduceLT,Int.reduceLE,gP2,gF2,gI2,gP3,gF3,gI3,gP4,gF4,gI4,gP5,gF5,gI5,cwa0,cwb0,bwa0,bwb0,cwa1,cwb1,bwa1,bwb1,b1,b2,b3,b4,b5,b6,bl,bi,bp,bs,AM.sameO_some,cl,c1,c2,c3,c4,c5,c6,gV]
  subst hQ
  exact ⟨f05,rfl⟩
 simp only [Bool.and_eq_false_iff,Bool.or_eq_false_iff,decide_eq_false_iff_not] at hb
 have k5 := hb
 clear hb
 simp -implicitDefEqProofs (disch := first|decide|assumption|omega|(simp -implicitDefEqProofs only [AM.RN];first|done|omega)|fail) only [AM.RGB,↓AM.R0,AM.R1,AM.R2,Nat.reduceAdd,Nat.reduceLeDiff,Nat.reduceEqDiff,Int.reduceToNat,Nat.reduceLT,↓reduceIte,Int.reduceEq,Int.reduceLT,Int.reduceLE,gP2,gF2,gI2]
 refine AM.cI_bool (fun hb => ?_) (fun hb => ?_)
 ·have o1 : i.op = 39 ∨ i.op = 46 ∨ i.op = 52 := by
   simp only [Bool.and_eq_true,Bool.or_eq_true,decide_eq_true_eq] at hb
   omega
  clear hb
  rw [show bodyF p f i = areF f.slots [(i.a,0)] by
   unfold bodyF
   rcases o1 with e | e | e <;> rw [e] <;> rfl] at hQ
  simp -implicitDefEqProofs (disch := first|decide|assumption|omega|(simp -implicitDefEqProofs only [AM.RN];first|done|omega)|fail) only [↓AM.R0,AM.R1,AM.R2,Nat.reduceAdd,Nat.reduceLeDiff,Nat.reduceEqDiff,Int.reduceToNat,Nat.reduceLT,↓reduceIte,Int.reduceEq,Int.reduceLT,Int.reduceLE,gP2,gF2,gI2,gV,c1,c2,c3]
  refine AM.trCall_of (rAnd (a := []) (b := []) nilW (by simp) (by simp) i.a 0) ?_
  rintro r hm2_0 ⟨fm2_0,wr,rfl,W0⟩
  replace W0 : WantR hm2_0 wr [i.a] [0] := W0
  obtain ⟨va0,ka0,rfl,Wa0,Wb0⟩ := W0
  have cwa0 := SlIn.cellv Wa0
  have cwb0 := SlIn.cellv Wb0
  have bwa0 := SlIn.beqv Wa0
  have bwb0 := SlIn.beqv Wb0
  have n3 : h.n + 3 ≤ hm2_0.n := by have := fm2_0.n; omega
  have gP3 : hm2_0.get (h.n) = .cells 0 false [tv,gv,fv] := (fm2_0.get _ (by omega) (by simp)).trans gP2
  have gF3 : hm2_0.get (h.n + 1) = .cells 0 false [.int .i64 f.params,sv,rv,cv] := (fm2_0.get _ (by omega) (by simp)).trans gF2
  have gI3 : hm2_0.get (h.n + 1 + 1) = .cells 0 false [.int .i64 i.op, .int .i64 i.a, .int .i64 i.b, .int .i64 i.c, .int .u64 i.imm,lv] := (fm2_0.get _ (by omega) (by simp)).trans gI2
  have f03 := f02.trans fm2_0
  simp -implicitDefEqProofs (disch := first|decide|assumption|omega|(simp -implicitDefEqProofs only [AM.RN];first|done|omega)|fail) only [↓AM.R0,AM.R1,AM.R2,Nat.reduceAdd,Nat.reduceLeDiff,Nat.reduceEqDiff,Int.reduceToNat,Nat.reduceLT,↓reduceIte,Int.reduceEq,Int.reduceLT,Int.reduceLE,gP2,gF2,gI2,gP3,gF3,gI3,cwa0,cwb0,bwa0,bwb0,b1,b2,b3,b4,b5,b6,bl,bi,bp,bs,AM.sameO_some,cl,c1,c2,c3,c4,c5,c6,gV]
  refine AM.trCall_of (rMet (F0.keep f03) (l := [(i.a,0)]) ⟨va0,ka0,rfl,Wa0,Wb0⟩ (by simp)) ?_
  rintro r hm3_9 ⟨fm3_9,rfl⟩
  have n4 : h.n + 3 ≤ hm3_9.n := by have := fm3_9.n; omega
  have gP4 : hm3_9.get (h.n) = .cells 0 false [tv,gv,fv] := (fm3_9.get _ (by omega) (by simp)).trans gP3
  have gF4 : hm3_9.get (h.n + 1) = .cells 0 false [.int .i64 f.params,sv,rv,cv] := (fm3_9.get _ (by omega) (by simp)).trans gF3
  have gI4 : hm3_9.get (h.n + 1 + 1) = .cells 0 false [.int .i64 i.op, .int .i64 i.a, .int .i64 i.b, .int .i64 i.c, .int .u64 i.imm,lv] := (fm3_9.get _ (by omega) (by simp)).trans gI3
  have f04 := f03.trans fm3_9
  simp -implicitDefEqProofs (disch := first|decide|assumption|omega|(simp -implicitDefEqProofs only [AM.RN];first|done|omega)|fail) only [↓AM.R0,AM.R1,AM.R2,Nat.reduceAdd,Nat.reduceLeDiff,Nat.reduceEqDiff,Int.reduceToNat,Nat.reduceLT,↓reduceIte,Int.reduceEq,Int.reduceLT,Int.reduceLE,gP2,gF2,gI2,gP3,gF3,gI3,gP4,gF4,gI4,cwa0,cwb0,bwa0,bwb0,b1,b2,b3,b4,b5,b6,bl,bi,bp,bs,AM.sameO_some,cl,c1,c2,c3,c4,c5,c6,gV]
  subst hQ
  exact ⟨f04,rfl⟩
 simp only [Bool.and_eq_false_iff,Bool.or_eq_false_iff,decide_eq_false_iff_not] at hb
 have k6 := hb
 clear hb
 simp -implicitDefEqProofs (disch := first|decide|assumption|omega|(simp -implicitDefEqProofs only [AM.RN];first|done|omega)|fail) only [AM.RGB,↓AM.R0,AM.R1,AM.R2,Nat.reduceAdd,Nat.reduceLeDiff,Nat.reduceEqDiff,Int.reduceToNat,Nat.reduceLT,↓reduceIte,Int.reduceEq,Int.reduceLT,Int.reduceLE,gP2,gF2,gI2]
 refine AM.cI_bool (fun hb => ?_) (fun hb => ?_)
 ·have o1 : i.op = 49 ∨ i.op = 51 := by
   simp only [Bool.and_eq_true,Bool.or_eq_true,decide_eq_true_eq] at hb
   omega
  clear hb
  rw [show bodyF p f i = areF f.slots [(i.a,2), (i.b,0)] by
   unfold bodyF
   rcases o1 with e | e <;> rw [e] <;> rfl] at hQ
  simp -implicitDefEqProofs (disch := first|decide|assumption|omega|(simp -implicitDefEqProofs only [AM.RN];first|done|omega)|fail) only [↓AM.R0,AM.R1,AM.R2,Nat.reduceAdd,Nat.reduceLeDiff,Nat.reduceEqDiff,Int.reduceToNat,Nat.reduceLT,↓reduceIte,Int.reduceEq,Int.reduceLT,Int.reduceLE,gP2,gF2,gI2,gV,c1,c2,c3]
  refine AM.trCall_of (rAnd (a := []) (b := []) nilW (by simp) (by simp) i.a 2) ?_
  rintro r hm2_0 ⟨fm2_0,wr,rfl,W0⟩
  replace W0 : WantR hm2_0 wr [i.a] [2] := W0
  obtain ⟨va0,ka0,rfl,Wa0,Wb0⟩ := W0
  have cwa0 := SlIn.cellv Wa0
  have cwb0 := SlIn.cellv Wb0
  have bwa0 := SlIn.beqv Wa0
  have bwb0 := SlIn.beqv Wb0
  have n3 : h.n + 3 ≤ hm2_0.n := by have := fm2_0.n; omega
  have gP3 : hm2_0.get (h.n) = .cells 0 false [tv,gv,fv] := (fm2_0.get _ (by omega) (by simp)).trans gP2
  have gF3 : hm2_0.get (h.n + 1) = .cells 0 false [.int .i64 f.params,sv,rv,cv] := (fm2_0.get _ (by omega) (by simp)).trans gF2
  have gI3 : hm2_0.get (h.n + 1 + 1) = .cells 0 false [.int .i64 i.op, .int .i64 i.a, .int .i64 i.b, .int .i64 i.c, .int .u64 i.imm,lv] := (fm2_0.get _ (by omega) (by simp)).trans gI2
  have f03 := f02.trans fm2_0
  simp -implicitDefEqProofs (disch := first|decide|assumption|omega|(simp -implicitDefEqProofs only [AM.RN];first|done|omega)|fail) only [↓AM.R0,AM.R1,AM.R2,Nat.reduceAdd,Nat.reduceLeDiff,Nat.reduceEqDiff,Int.reduceToNat,Nat.reduceLT,↓reduceIte,Int.reduceEq,Int.reduceLT,Int.reduceLE,gP2,gF2,gI2,gP3,gF3,gI3,cwa0,cwb0,bwa0,bwb0,b1,b2,b3,b4,b5,b6,bl,bi,bp,bs,AM.sameO_some,cl,c1,c2,c3,c4,c5,c6,gV]
  refine AM.trCall_of (rAnd (a := [i.a]) (b := [2]) ⟨va0,ka0,rfl,Wa0,Wb0⟩ (by simp) (by simp) i.b 0) ?_
  rintro r hm3_1 ⟨fm3_1,wr,rfl,W1⟩
  replace W1 : WantR hm3_1 wr [i.a,i.b] [2,0] := W1
  obtain ⟨va1,ka1,rfl,Wa1,Wb1⟩ := W1
  have cwa1 := SlIn.cellv Wa1
  have cwb1 := SlIn.cellv Wb1
  have bwa1 := SlIn.beqv Wa1
  have bwb1 := SlIn.beqv Wb1
  have n4 : h.n + 3 ≤ hm3_1.n := by have := fm3_1.n; omega
  have gP4 : hm3_1.get (h.n) = .cells 0 false [tv,gv,fv] := (fm3_1.get _ (by omega) (by simp)).trans gP3
  have gF4 : hm3_1.get (h.n + 1) = .cells 0 false [.int .i64 f.params,sv,rv,cv] := (fm3_1.get _ (by omega) (by simp)).trans gF3
  have gI4 : hm3_1.get (h.n + 1 + 1) = .cells 0 false [.int .i64 i.op, .int .i64 i.a, .int .i64 i.b, .int .i64 i.c, .int .u64 i.imm,lv] := (fm3_1.get _ (by omega) (by simp)).trans gI3
  have f04 := f03.trans fm3_1
  simp -implicitDefEqProofs (disch := first|decide|assumption|omega|(simp -implicitDefEqProofs only [AM.RN];first|done|omega)|fail) only [↓AM.R0,AM.R1,AM.R2,Nat.reduceAdd,Nat.reduceLeDiff,Nat.reduceEqDiff,Int.reduceToNat,Nat.reduceLT,↓reduceIte,Int.reduceEq,Int.reduceLT,Int.reduceLE,gP2,gF2,gI2,gP3,gF3,gI3,gP4,gF4,gI4,cwa0,cwb0,bwa0,bwb0,cwa1,cwb1,bwa1,bwb1,b1,b2,b3,b4,b5,b6,bl,bi,bp,bs,AM.sameO_some,cl,c1,c2,c3,c4,c5,c6,gV]
  refine AM.trCall_of (rMet (F0.keep f04) (l := [(i.a,2), (i.b,0)]) ⟨va1,ka1,rfl,Wa1,Wb1⟩ (by simp)) ?_
  rintro r hm4_9 ⟨fm4_9,rfl⟩
  have n5 : h.n + 3 ≤ hm4_9.n := by have := fm4_9.n; omega
  have gP5 : hm4_9.get (h.n) = .cells 0 false [tv,gv,fv] := (fm4_9.get _ (by omega) (by simp)).trans gP4
  have gF5 : hm4_9.get (h.n + 1) = .cells 0 false [.int .i64 f.params,sv,rv,cv] := (fm4_9.get _ (by omega) (by simp)).trans gF4
  have gI5 : hm4_9.get (h.n + 1 + 1) = .cells 0 false [.int .i64 i.op, .int .i64 i.a, .int .i64 i.b, .int .i64 i.c, .int .u64 i.imm,lv] := (fm4_9.get _ (by omega) (by simp)).trans gI4
  have f05 := f04.trans fm4_9
  simp -implicitDefEqProofs (disch := first|decide|assumption|omega|(simp -implicitDefEqProofs only [AM.RN];first|done|omega)|fail) only [↓AM.R0,AM.R1,AM.R2,Nat.reduceAdd,Nat.reduceLeDiff,Nat.reduceEqDiff,Int.reduceToNat,Nat.reduceLT,↓reduceIte,Int.reduceEq,Int.reduceLT,Int.reduceLE,gP2,gF2,gI2,gP3,gF3,gI3,gP4,gF4,gI4,gP5,gF5,gI5,cwa0,cwb0,bwa0,bwb0,cwa1,cwb1,bwa1,bwb1,b1,b2,b3,b4,b5,b6,bl,bi,bp,bs,AM.sameO_some,cl,c1,c2,c3,c4,c5,c6,gV]
  subst hQ
  exact ⟨f05,rfl⟩
 simp only [Bool.and_eq_false_iff,Bool.or_eq_false_iff,decide_eq_false_iff_not] at hb
 have k7 := hb
 clear hb
 simp -implicitDefEqProofs (disch := first|decide|assumption|omega|(simp -implicitDefEqProofs only [AM.RN];first|done|omega)|fail) only [AM.RGB,↓AM.R0,AM.R1,AM.R2,Nat.reduceAdd,Nat.reduceLeDiff,Nat.reduceEqDiff,Int.reduceToNat,Nat.reduceLT,↓reduceIte,Int.reduceEq,Int.reduceLT,Int.reduceLE,gP2,gF2,gI2]
 refine AM.cI_bool (fun hb => ?_) (fun hb => ?_)
 ·have o1 : i.op = 50 := by
   simp only [Bool.and_eq_true,Bool.or_eq_true,decide_eq_true_eq] at hb
   omega
  clear hb
  rw [show bodyF p f i = areF f.slots [(i.a,0), (i.b,2)] by
   unfold bodyF
   rw [o1]; rfl] at hQ
  simp -implicitDefEqProofs (disch := first|decide|assumption|omega|(simp -implicitDefEqProofs only [AM.RN];first|done|omega)|fail) only [↓AM.R0,AM.R1,AM.R2,Nat.reduceAdd,Nat.reduceLeDiff,Nat.reduceEqDiff,Int.reduceToNat,Nat.reduceLT,↓reduceIte,Int.reduceEq,Int.reduceLT,Int.reduceLE,gP2,gF2,gI2,gV,c1,c2,c3]
  refine AM.trCall_of (rAnd (a := []) (b := []) nilW (by simp) (by simp) i.a 0) ?_
  rintro r hm2_0 ⟨fm2_0,wr,rfl,W0⟩
  replace W0 : WantR hm2_0 wr [i.a] [0] := W0
  obtain ⟨va0,ka0,rfl,Wa0,Wb0⟩ := W0
  have cwa0 := SlIn.cellv Wa0
  have cwb0 := SlIn.cellv Wb0
  have bwa0 := SlIn.beqv Wa0
  have bwb0 := SlIn.beqv Wb0
  have n3 : h.n + 3 ≤ hm2_0.n := by have := fm2_0.n; omega
  have gP3 : hm2_0.get (h.n) = .cells 0 false [tv,gv,fv] := (fm2_0.get _ (by omega) (by simp)).trans gP2
  have gF3 : hm2_0.get (h.n + 1) = .cells 0 false [.int .i64 f.params,sv,rv,cv] := (fm2_0.get _ (by omega) (by simp)).trans gF2
  have gI3 : hm2_0.get (h.n + 1 + 1) = .cells 0 false [.int .i64 i.op, .int .i64 i.a, .int .i64 i.b, .int .i64 i.c, .int .u64 i.imm,lv] := (fm2_0.get _ (by omega) (by simp)).trans gI2
  have f03 := f02.trans fm2_0
  simp -implicitDefEqProofs (disch := first|decide|assumption|omega|(simp -implicitDefEqProofs only [AM.RN];first|done|omega)|fail) only [↓AM.R0,AM.R1,AM.R2,Nat.reduceAdd,Nat.reduceLeDiff,Nat.reduceEqDiff,Int.reduceToNat,Nat.reduceLT,↓reduceIte,Int.reduceEq,Int.reduceLT,Int.reduceLE,gP2,gF2,gI2,gP3,gF3,gI3,cwa0,cwb0,bwa0,bwb0,b1,b2,b3,b4,b5,b6,bl,bi,bp,bs,AM.sameO_some,cl,c1,c2,c3,c4,c5,c6,gV]
  refine AM.trCall_of (rAnd (a := [i.a]) (b := [0]) ⟨va0,ka0,rfl,Wa0,Wb0⟩ (by simp) (by simp) i.b 2) ?_
  rintro r hm3_1 ⟨fm3_1,wr,rfl,W1⟩
  replace W1 : WantR hm3_1 wr [i.a,i.b] [0,2] := W1
  obtain ⟨va1,ka1,rfl,Wa1,Wb1⟩ := W1
  have cwa1 := SlIn.cellv Wa1
  have cwb1 := SlIn.cellv Wb1
  have bwa1 := SlIn.beqv Wa1
  have bwb1 := SlIn.beqv Wb1
  have n4 : h.n + 3 ≤ hm3_1.n := by have := fm3_1.n; omega
  have gP4 : hm3_1.get (h.n) = .cells 0 false [tv,gv,fv] := (fm3_1.get _ (by omega) (by simp)).trans gP3
  have gF4 : hm3_1.get (h.n + 1) = .cells 0 false [.int .i64 f.params,sv,rv,cv] := (fm3_1.get _ (by omega) (by simp)).trans gF3
  have gI4 : hm3_1.get (h.n + 1 + 1) = .cells 0 false [.int .i64 i.op, .int .i64 i.a, .int .i64 i.b, .int .i64 i.c, .int .u64 i.imm,lv] := (fm3_1.get _ (by omega) (by simp)).trans gI3
  have f04 := f03.trans fm3_1
  simp -implicitDefEqProofs (disch := first|decide|assumption|omega|(simp -implicitDefEqProofs only [AM.RN];first|done|omega)|fail) only [↓AM.R0,AM.R1,AM.R2,Nat.reduceAdd,Nat.reduceLeDiff,Nat.reduceEqDiff,Int.reduceToNat,Nat.reduceLT,↓reduceIte,Int.reduceEq,Int.reduceLT,Int.reduceLE,gP2,gF2,gI2,gP3,gF3,gI3,gP4,gF4,gI4,cwa0,cwb0,bwa0,bwb0,cwa1,cwb1,bwa1,bwb1,b1,b2,b3,b4,b5,b6,bl,bi,bp,bs,AM.sameO_some,cl,c1,c2,c3,c4,c5,c6,gV]
  refine AM.trCall_of (rMet (F0.keep f04) (l := [(i.a,0), (i.b,2)]) ⟨va1,ka1,rfl,Wa1,Wb1⟩ (by simp)) ?_
  rintro r hm4_9 ⟨fm4_9,rfl⟩
  have n5 : h.n + 3 ≤ hm4_9.n := by have := fm4_9.n; omega
  have gP5 : hm4_9.get (h.n) = .cells 0 false [tv,gv,fv] := (fm4_9.get _ (by omega) (by simp)).trans gP4
  have gF5 : hm4_9.get (h.n + 1) = .cells 0 false [.int .i64 f.params,sv,rv,cv] := (fm4_9.get _ (by omega) (by simp)).trans gF4
  have gI5 : hm4_9.get (h.n + 1 + 1) = .cells 0 false [.int .i64 i.op, .int .i64 i.a, .int .i64 i.b, .int .i64 i.c, .int .u64 i.imm,lv] := (fm4_9.get _ (by omega) (by simp)).trans gI4
  have f05 := f04.trans fm4_9
  simp -implicitDefEqProofs (disch := first|decide|assumption|omega|(simp -implicitDefEqProofs only [AM.RN];first|done|omega)|fail) only [↓AM.R0,AM.R1,AM.R2,Nat.reduceAdd,Nat.reduceLeDiff,Nat.reduceEqDiff,Int.reduceToNat,Nat.reduceLT,↓reduceIte,Int.reduceEq,Int.reduceLT,Int.reduceLE,gP2,gF2,gI2,gP3,gF3,gI3,gP4,gF4,gI4,gP5,gF5,gI5,cwa0,cwb0,bwa0,bwb0,cwa1,cwb1,bwa1,bwb1,b1,b2,b3,b4,b5,b6,bl,bi,bp,bs,AM.sameO_some,cl,c1,c2,c3,c4,c5,c6,gV]
  subst hQ
  exact ⟨f05,rfl⟩
 simp only [Bool.and_eq_false_iff,Bool.or_eq_false_iff,decide_eq_false_iff_not] at hb
 have k8 := hb
 clear hb
 simp -implicitDefEqProofs (disch := first|decide|assumption|omega|(simp -implicitDefEqProofs only [AM.RN];first|done|omega)|fail) only [AM.RGB,↓AM.R0,AM.R1,AM.R2,Nat.reduceAdd,Nat.reduceLeDiff,Nat.reduceEqDiff,Int.reduceToNat,Nat.reduceLT,↓reduceIte,Int.reduceEq,Int.reduceLT,Int.reduceLE,gP2,gF2,gI2]
 refine AM.cI_bool (fun hb => ?_) (fun hb => ?_)
 ·have o1 : i.op = 47 := by
   simp only [Bool.and_eq_true,Bool.or_eq_true,decide_eq_true_eq] at hb
   omega
  clear hb
  rw [show bodyF p f i = 0 by
   unfold bodyF
   rw [o1]; rfl] at hQ
  simp -implicitDefEqProofs (disch := first|decide|assumption|omega|(simp -implicitDefEqProofs only [AM.RN];first|done|omega)|fail) only [↓AM.R0,AM.R1,AM.R2,Nat.reduceAdd,Nat.reduceLeDiff,Nat.reduceEqDiff,Int.reduceToNat,Nat.reduceLT,↓reduceIte,Int.reduceEq,Int.reduceLT,Int.reduceLE]
  subst hQ
  exact ⟨f02,rfl⟩
 simp only [Bool.and_eq_false_iff,Bool.or_eq_false_iff,decide_eq_false_iff_not] at hb
 have k9 := hb
 clear hb
 simp -implicitDefEqProofs (disch := first|decide|assumption|omega|(simp -implicitDefEqProofs only [AM.RN];first|done|omega)|fail) only [↓AM.R0,AM.R1,AM.R2,Nat.reduceAdd,Nat.reduceLeDiff,Nat.reduceEqDiff,Int.reduceToNat,Nat.reduceLT,↓reduceIte,Int.reduceEq,Int.reduceLT,Int.reduceLE,gP2,gF2,gI2,cl,c1,c2,c3,c4,c5,c6]
 refine AM.callI_of (rOther (P0.keep f02) (F0.keep f02) (R0.keep f02) H T hT HP hl ?_) ?_
 ·simp only [orB,List.any_cons,List.any_nil,Bool.or_false,Bool.or_eq_true,decide_eq_true_eq]
  omega
 rintro r h5 ⟨f5,rfl⟩
 simp -implicitDefEqProofs (disch := first|decide|assumption|omega|(simp -implicitDefEqProofs only [AM.RN];first|done|omega)|fail) only [↓AM.R0,AM.R1,AM.R2,Nat.reduceAdd,Nat.reduceLeDiff,Nat.reduceEqDiff,Int.reduceToNat,Nat.reduceLT,↓reduceIte,Int.reduceEq,Int.reduceLT,Int.reduceLE]
 subst hQ
 exact ⟨f02.trans f5,rfl⟩
end Go.Proofs.Ytofcnjglnnoimaa.Vf
namespace Go.Proofs.Ytofcnjglnnoimaa.Vf
open Go Go.AM Go.Proofs.Ytofcnjglnnoimaa.AmGW
attribute [local irreducible] AM.wp AM.wpIs AM.wpTr AM.opI AM.gI AM.cI AM.trI AM.callI AM.fnI AM.trG AM.trOp AM.trCall AM.seqC AM.loopI
set_option maxRecDepth 100000
set_option linter.unusedVariables false
set_option linter.unusedSimpArgs false
theorem four_of {vs : List AVal} {off : Nat} {a b c d : AVal} (e : (vs.drop off).take 4 = [a,b,c,d]) : vs[off + 3]? = some d := by
 have h2 : ((vs.drop off).take 4)[3]? = some d := by rw [e]; rfl
 rw [List.getElem?_take,if_pos (by omega), List.getElem?_drop] at h2
 exact h2
set_option maxHeartbeats 8000000 in
theorem rDoc {h : AHeap} {p : PProg} {row : List AVal} (R : ProgR h p row) (ok : p.Ok) :
  CallP AP 17 [.agg row] h fun r h' => HFrame h h' [] [] ∧ r = .tup [.int .i64 (checkF p).1, .int .i64 (checkF p).2.1, .int .i64 (checkF p).2.2] := by
 have R0 := R
 obtain ⟨tv,gv,fv,rfl,RT,RG,RF⟩ := R
 refine callP (rfl : Tr.get AP 17 = some A17) ?_
 generalize hQ : (fun (r : AVal) (h' : AHeap) => _) = Q
 have c4 := SlR.cellv RT
 have c5 := SlIn.cellv RG
 have c6 := SlR.cellv RF
 have l3 := RF.len
 obtain ⟨X,hX⟩ : ∃ X,X = checkF p := ⟨_,rfl⟩
 rw [← hX] at hQ
 rw [checkF] at hX
 have f0 := (HFrame.refl (h := h) (F := []) (by simp)).pushTmp (.cells 0 false [tv,gv,fv])
 obtain ⟨hA,hhA⟩ : ∃ hA,hA = (h.push (.cells 0 false [tv,gv,fv])) := ⟨_,rfl⟩
 have gP0 : hA.get h.n = .cells 0 false [tv,gv,fv] := by rw [hhA]; simp -implicitDefEqProofs (disch := first|decide|assumption|omega|(simp -implicitDefEqProofs only [AM.RN];first|done|omega)|fail) only [↓AM.R0,AM.R1,AM.R2,Nat.reduceAdd,Nat.reduceLeDiff,Nat.reduceEqDiff,Int.reduceToNat,Nat.reduceLT,↓reduceIte,Int.reduceEq,Int.reduceLT,Int.reduceLE]
 have n0 : h.n + 1 ≤ hA.n := by rw [hhA]; simp
 simp -implicitDefEqProofs (disch := first|decide|assumption|omega|(simp -implicitDefEqProofs only [AM.RN];first|done|omega)|fail) only [↓AM.R0,AM.R1,AM.R2,Nat.reduceAdd,Nat.reduceLeDiff,Nat.reduceEqDiff,Int.reduceToNat,Nat.reduceLT,↓reduceIte,Int.reduceEq,Int.reduceLT,Int.reduceLE,c4,c5,c6]
 rw [← hhA] at f0 ⊢
 clear hhA
 refine AM.callI_of (rTypes (R0.keep f0) ok) ?_
 rintro r h1 ⟨f1,rfl⟩
 have n1 : h.n + 1 ≤ h1.n := by have := f1.n; omega
 have gP1 : h1.get h.n = .cells 0 false [tv,gv,fv] := (f1.get _ (by omega) (by simp)).trans gP0
 have f01 := f0.trans f1
 simp -implicitDefEqProofs (disch := first|decide|assumption|omega|(simp -implicitDefEqProofs only [AM.RN];first|done|omega)|fail) only [↓AM.R0,AM.R1,AM.R2,Nat.reduceAdd,Nat.reduceLeDiff,Nat.reduceEqDiff,Int.reduceToNat,Nat.reduceLT,↓reduceIte,Int.reduceEq,Int.reduceLT,Int.reduceLE]
 refine AM.cI_bool (fun hb => ?_) (fun hb => ?_)
 ·have hb' : (typesF p).1 ≠ 0 := by simpa using hb
  rw [if_pos hb'] at hX
  simp -implicitDefEqProofs (disch := first|decide|assumption|omega|(simp -implicitDefEqProofs only [AM.RN];first|done|omega)|fail) only [↓AM.R0,AM.R1,AM.R2,Nat.reduceAdd,Nat.reduceLeDiff,Nat.reduceEqDiff,Int.reduceToNat,Nat.reduceLT,↓reduceIte,Int.reduceEq,Int.reduceLT,Int.reduceLE]
  subst hQ
  exact ⟨f01,by rw [hX]⟩
 have hb' : ¬ (typesF p).1 ≠ 0 := by simpa using hb
 rw [if_neg hb'] at hX
 obtain ⟨t1,t2,t3,t4,t5,t6⟩ := typesF_ok (by simpa using hb')
 simp -implicitDefEqProofs (disch := first|decide|assumption|omega|(simp -implicitDefEqProofs only [AM.RN];first|done|omega)|fail) only [↓AM.R0,AM.R1,AM.R2,Nat.reduceAdd,Nat.reduceLeDiff,Nat.reduceEqDiff,Int.reduceToNat,Nat.reduceLT,↓reduceIte,Int.reduceEq,Int.reduceLT,Int.reduceLE]
 refine AM.loopI_of (fun k e h' => ∃ (x : Nat), k + x = p.funcs.length ∧ e.val 1 = .ptr h.n 0 0 ∧ e.val 7 = .int .i64 x ∧ HFrame h h' [] [] ∧ h.n + 1 ≤ h'.n ∧ h'.get h.n = .cells 0 false [tv,gv,fv] ∧
  headsF p.types.length p.funcs 0 = headsF p.types.length (p.funcs.drop x) x) p.funcs.length ?_ ?_
 ·refine ⟨0,by omega, ?_, ?_,f01,n1,gP1,by simp⟩ <;> simp -implicitDefEqProofs (disch := first|decide|assumption|omega|(simp -implicitDefEqProofs only [AM.RN];first|done|omega)|fail) only [↓AM.R0,AM.R1,AM.R2,Nat.reduceAdd,Nat.reduceLeDiff,Nat.reduceEqDiff,Int.reduceToNat,Nat.reduceLT,↓reduceIte,Int.reduceEq,Int.reduceLT,Int.reduceLE] <;> rfl
 ·rintro k e h' ⟨x,hk,e1,e7,fr,hn,gP,hF⟩
  simp -implicitDefEqProofs (disch := first|decide|assumption|omega|(simp -implicitDefEqProofs only [AM.RN];first|done|omega)|fail) only [↓AM.R0,AM.R1,AM.R2,Nat.reduceAdd,Nat.reduceLeDiff,Nat.reduceEqDiff,Int.reduceToNat,Nat.reduceLT,↓reduceIte,Int.reduceEq,Int.reduceLT,Int.reduceLE,e1,e7,gP,l3]
  refine AM.cI_bool (fun hc => ?_) (fun hc => ?_)
  ·simp only [decide_eq_true_eq] at hc
   obtain ⟨f,hf⟩ : ∃ f,p.funcs[x]? = some f := ⟨_,List.getElem?_eq_getElem (by omega)⟩
   have hw : IntKind.i64.wrap ((x : Int) + 1) = ((x + 1 : Nat) : Int) := wrap64 (by omega) (by omega)
   rw [headsF_drop hf] at hF
   simp -implicitDefEqProofs (disch := first|decide|assumption|omega|(simp -implicitDefEqProofs only [AM.RN];first|done|omega)|fail) only [↓AM.R0,AM.R1,AM.R2,Nat.reduceAdd,Nat.reduceLeDiff,Nat.reduceEqDiff,Int.reduceToNat,Nat.reduceLT,↓reduceIte,Int.reduceEq,Int.reduceLT,Int.reduceLE,e1,e7,gP,c4,c5,c6]
   refine AM.callI_of (rHead (R0.keep fr) ok hf) ?_
   rintro r h3 ⟨f3,rfl⟩
   have gP3 := (f3.get h.n (by omega) (by simp)).trans gP
   have n3 : h.n + 1 ≤ h3.n := by have := f3.n; omega
   have f23 := fr.trans f3
   simp -implicitDefEqProofs (disch := first|decide|assumption|omega|(simp -implicitDefEqProofs only [AM.RN];first|done|omega)|fail) only [↓AM.R0,AM.R1,AM.R2,Nat.reduceAdd,Nat.reduceLeDiff,Nat.reduceEqDiff,Int.reduceToNat,Nat.reduceLT,↓reduceIte,Int.reduceEq,Int.reduceLT,Int.reduceLE]
   refine AM.cI_bool (fun hd => ?_) (fun hd => ?_)
   ·have hd' : headF p.types.length f (decide (x = 0)) ≠ 0 := by simpa using hd
    rw [if_pos hd'] at hF
    rw [hF,if_pos hd'] at hX
    simp -implicitDefEqProofs (disch := first|decide|assumption|omega|(simp -implicitDefEqProofs only [AM.RN];first|done|omega)|fail) only [↓AM.R0,AM.R1,AM.R2,Nat.reduceAdd,Nat.reduceLeDiff,Nat.reduceEqDiff,Int.reduceToNat,Nat.reduceLT,↓reduceIte,Int.reduceEq,Int.reduceLT,Int.reduceLE,e1,e7]
    subst hQ
    exact ⟨f23,by rw [hX]⟩
   ·have hd' : ¬ headF p.types.length f (decide (x = 0)) ≠ 0 := by simpa using hd
    rw [if_neg hd'] at hF
    simp -implicitDefEqProofs (disch := first|decide|assumption|omega|(simp -implicitDefEqProofs only [AM.RN];first|done|omega)|fail) only [↓AM.R0,AM.R1,AM.R2,Nat.reduceAdd,Nat.reduceLeDiff,Nat.reduceEqDiff,Int.reduceToNat,Nat.reduceLT,↓reduceIte,Int.reduceEq,Int.reduceLT,Int.reduceLE,e1,e7,hw]
    exact ⟨p.funcs.length - (x + 1), by omega,x + 1,by omega,rfl,f23,n3,gP3,hF⟩
  ·simp only [decide_eq_false_iff_not] at hc
   rw [List.drop_of_length_le (by omega)] at hF
   have hall : (headsF p.types.length p.funcs 0).1 = 0 := by rw [hF]; rfl
   have hHp : Hp p := fun g hg => by
    obtain ⟨b,hb⟩ := headsF_ok hall g hg
    obtain ⟨q1,q2,q3,q4,q5,_⟩ := headF_ok hb
    exact ⟨q4,q5,q1,q2⟩
   have hHs : ∀ g,g ∈ p.funcs → Hs p g.slots ∧ g.code.length ≤ 256 := fun g hg => by
    obtain ⟨b,hb⟩ := headsF_ok hall g hg
    obtain ⟨q1,q2,q3,q4,q5,q6,_⟩ := headF_ok hb
    exact ⟨q6,q3⟩
   rw [hF,if_neg (by simp [headsF])] at hX
   clear hF hall
   simp -implicitDefEqProofs (disch := first|decide|assumption|omega|(simp -implicitDefEqProofs only [AM.RN];first|done|omega)|fail) only [↓AM.R0,AM.R1,AM.R2,Nat.reduceAdd,Nat.reduceLeDiff,Nat.reduceEqDiff,Int.reduceToNat,Nat.reduceLT,↓reduceIte,Int.reduceEq,Int.reduceLT,Int.reduceLE,e1]
   refine AM.loopI_of (fun k e h' => ∃ (x : Nat), k + x = p.funcs.length ∧ e.val 1 = .ptr h.n 0 0 ∧ e.val 8 = .int .i64 x ∧ HFrame h h' [] [] ∧ h.n + 1 ≤ h'.n ∧ h'.get h.n = .cells 0 false [tv,gv,fv] ∧
    codesF p p.funcs 0 = codesF p (p.funcs.drop x) x) p.funcs.length ?_ ?_
   ·refine ⟨0,by omega, ?_, ?_,fr,hn,gP,by simp⟩ <;> simp -implicitDefEqProofs (disch := first|decide|assumption|omega|(simp -implicitDefEqProofs only [AM.RN];first|done|omega)|fail) only [↓AM.R0,AM.R1,AM.R2,Nat.reduceAdd,Nat.reduceLeDiff,Nat.reduceEqDiff,Int.reduceToNat,Nat.reduceLT,↓reduceIte,Int.reduceEq,Int.reduceLT,Int.reduceLE,e1] <;> rfl
   ·clear e1 e7 fr hn gP hk hc
    rintro k e h' ⟨x,hk,e1,e8,fr,hn,gP,hF⟩
    simp -implicitDefEqProofs (disch := first|decide|assumption|omega|(simp -implicitDefEqProofs only [AM.RN];first|done|omega)|fail) only [↓AM.R0,AM.R1,AM.R2,Nat.reduceAdd,Nat.reduceLeDiff,Nat.reduceEqDiff,Int.reduceToNat,Nat.reduceLT,↓reduceIte,Int.reduceEq,Int.reduceLT,Int.reduceLE,e1,e8,gP,l3]
    refine AM.cI_bool (fun hc => ?_) (fun hc => ?_)
    ·simp only [decide_eq_true_eq] at hc
     obtain ⟨f,hf⟩ : ∃ f,p.funcs[x]? = some f := ⟨_,List.getElem?_eq_getElem (by omega)⟩
     obtain ⟨hs1,hs2⟩ := hHs f (List.mem_of_getElem? hf)
     have hw : IntKind.i64.wrap ((x : Int) + 1) = ((x + 1 : Nat) : Int) := wrap64 (by omega) (by omega)
     rw [codesF_drop hf] at hF
     simp -implicitDefEqProofs (disch := first|decide|assumption|omega|(simp -implicitDefEqProofs only [AM.RN];first|done|omega)|fail) only [↓AM.R0,AM.R1,AM.R2,Nat.reduceAdd,Nat.reduceLeDiff,Nat.reduceEqDiff,Int.reduceToNat,Nat.reduceLT,↓reduceIte,Int.reduceEq,Int.reduceLT,Int.reduceLE,e1,e8,gP]
     refine AM.loopI_of (fun k e h2 => ∃ (y : Nat), k + y = f.code.length ∧ e.val 1 = .ptr h.n 0 0 ∧ e.val 8 = .int .i64 x ∧ e.val 9 = .int .i64 y ∧ HFrame h h2 [] [] ∧ h.n + 1 ≤ h2.n ∧ h2.get h.n = .cells 0 false [tv,gv,fv] ∧
      firstE (insF p f) f.code 0 = firstE (insF p f) (f.code.drop y) y) f.code.length ?_ ?_
     ·refine ⟨0,by omega, ?_, ?_, ?_,fr,hn,gP,by simp⟩ <;> simp -implicitDefEqProofs (disch := first|decide|assumption|omega|(simp -implicitDefEqProofs only [AM.RN];first|done|omega)|fail) only [↓AM.R0,AM.R1,AM.R2,Nat.reduceAdd,Nat.reduceLeDiff,Nat.reduceEqDiff,Int.reduceToNat,Nat.reduceLT,↓reduceIte,Int.reduceEq,Int.reduceLT,Int.reduceLE,e1,e8] <;> rfl
     ·clear e1 e8 fr hn gP
      rintro k2 e h2 ⟨y,hky,e1,e8,e9,f2,n2,gP,hE⟩
      obtain ⟨j,g2,off,vs,ro,row,x1,x2,x3,x4,x5,x6,sv,rv,cv,rfl,ys,yr,yc⟩ := (RF.mono (h' := h2) (R' := FuncR h) (fun _ _ q => q) f2.n (fun j hj => f2.get j hj (by simp))).ix hf .i64
      have x7 := four_of x5
      have k1 := SlIn.cellv ys
      have k2' := SlIn.cellv yr
      have k3 := SlR.cellv yc
      have lc := yc.len
      simp -implicitDefEqProofs (disch := first|decide|assumption|omega|(simp -implicitDefEqProofs only [AM.RN];first|done|omega)|fail) only [↓AM.R0,AM.R1,AM.R2,Nat.reduceAdd,Nat.reduceLeDiff,Nat.reduceEqDiff,Int.reduceToNat,Nat.reduceLT,↓reduceIte,Int.reduceEq,Int.reduceLT,Int.reduceLE,e1,e8,e9,gP,x1,x2,x7,lc]
      refine AM.cI_bool (fun hd => ?_) (fun hd => ?_)
      ·simp only [decide_eq_true_eq] at hd
       obtain ⟨z,hz⟩ : ∃ z,f.code[y]? = some z := ⟨_,List.getElem?_eq_getElem (by omega)⟩
       obtain ⟨j', g2', off', vs', ro', row', y1,y2,y3,y4,y5,y6,q7,lz,rfl,xl⟩ := (yc.mono (h' := h2) (R' := InsR h) (fun _ _ q => q) f2.n (fun j hj => f2.get j hj (by simp))).ix hz .i64
       have k4 := SlIn.cellv xl
       have hw2 : IntKind.i64.wrap ((y : Int) + 1) = ((y + 1 : Nat) : Int) := wrap64 (by omega) (by omega)
       rw [firstE_drop hz] at hE
       simp -implicitDefEqProofs (disch := first|decide|assumption|omega|(simp -implicitDefEqProofs only [AM.RN];first|done|omega)|fail) only [↓AM.R0,AM.R1,AM.R2,Nat.reduceAdd,Nat.reduceLeDiff,Nat.reduceEqDiff,Int.reduceToNat,Nat.reduceLT,↓reduceIte,Int.reduceEq,Int.reduceLT,Int.reduceLE,e1,e8,e9,gP,x1,x2,x5,x7,y1,y2,y5,c4,c5,c6,k1,k2', k3,k4]
       have FF : FuncR h f [.int .i64 f.params,sv,rv,cv] := ⟨sv,rv,cv,rfl,ys,yr,yc⟩
       have II : InsR h z [.int .i64 z.op, .int .i64 z.a, .int .i64 z.b, .int .i64 z.c, .int .u64 z.imm,lz] := ⟨q7,lz,rfl,xl⟩
       refine AM.trCall_of (rIns (R0.keep f2) (FF.keep f2) (II.keep f2) hs1 t5 t1 hHp) ?_
       rintro r h3 ⟨f3,rfl⟩
       have gP3 := (f3.get h.n (by omega) (by simp)).trans gP
       have n3 : h.n + 1 ≤ h3.n := by have := f3.n; omega
       have f23 := f2.trans f3
       simp -implicitDefEqProofs (disch := first|decide|assumption|omega|(simp -implicitDefEqProofs only [AM.RN];first|done|omega)|fail) only [↓AM.R0,AM.R1,AM.R2,Nat.reduceAdd,Nat.reduceLeDiff,Nat.reduceEqDiff,Int.reduceToNat,Nat.reduceLT,↓reduceIte,Int.reduceEq,Int.reduceLT,Int.reduceLE,e1,e8,e9]
       refine AM.cI_bool (fun hq => ?_) (fun hq => ?_)
       ·have hq' : insF p f z ≠ 0 := by simpa using hq
        rw [if_pos hq'] at hE
        rw [hE,if_pos hq'] at hF
        rw [hF] at hX
        simp -implicitDefEqProofs (disch := first|decide|assumption|omega|(simp -implicitDefEqProofs only [AM.RN];first|done|omega)|fail) only [↓AM.R0,AM.R1,AM.R2,Nat.reduceAdd,Nat.reduceLeDiff,Nat.reduceEqDiff,Int.reduceToNat,Nat.reduceLT,↓reduceIte,Int.reduceEq,Int.reduceLT,Int.reduceLE,e1,e8,e9]
        subst hQ
        exact ⟨f23,by rw [hX]⟩
       ·have hq' : ¬ insF p f z ≠ 0 := by simpa using hq
        rw [if_neg hq'] at hE
        simp -implicitDefEqProofs (disch := first|decide|assumption|omega|(simp -implicitDefEqProofs only [AM.RN];first|done|omega)|fail) only [↓AM.R0,AM.R1,AM.R2,Nat.reduceAdd,Nat.reduceLeDiff,Nat.reduceEqDiff,Int.reduceToNat,Nat.reduceLT,↓reduceIte,Int.reduceEq,Int.reduceLT,Int.reduceLE,e1,e8,e9,hw2]
        exact ⟨f.code.length - (y + 1), by omega,y + 1,by omega,rfl,f23,n3,gP3,hE⟩
      ·simp only [decide_eq_false_iff_not] at hd
       rw [List.drop_of_length_le (by omega)] at hE
       rw [hE,if_neg (by simp [firstE])] at hF
       simp -implicitDefEqProofs (disch := first|decide|assumption|omega|(simp -implicitDefEqProofs only [AM.RN];first|done|omega)|fail) only [↓AM.R0,AM.R1,AM.R2,Nat.reduceAdd,Nat.reduceLeDiff,Nat.reduceEqDiff,Int.reduceToNat,Nat.reduceLT,↓reduceIte,Int.reduceEq,Int.reduceLT,Int.reduceLE,e1,e8,e9,hw]
       exact ⟨p.funcs.length - (x + 1), by omega,x + 1,by omega,rfl,f2,n2,gP,hF⟩
    ·simp only [decide_eq_false_iff_not] at hc
     rw [List.drop_of_length_le (by omega)] at hF
     rw [hF] at hX
     simp -implicitDefEqProofs (disch := first|decide|assumption|omega|(simp -implicitDefEqProofs only [AM.RN];first|done|omega)|fail) only [↓AM.R0,AM.R1,AM.R2,Nat.reduceAdd,Nat.reduceLeDiff,Nat.reduceEqDiff,Int.reduceToNat,Nat.reduceLT,↓reduceIte,Int.reduceEq,Int.reduceLT,Int.reduceLE]
     subst hQ
     exact ⟨fr,by rw [hX]; rfl⟩
end Go.Proofs.Ytofcnjglnnoimaa.Vf
namespace Go.Proofs.Ytofcnjglnnoimaa.Vf
open Go Go.AM Go.Proofs.Ytofcnjglnnoimaa.AmGW
attribute [local irreducible] AM.wp AM.wpIs AM.wpTr AM.opI AM.gI AM.cI AM.trI AM.callI AM.fnI AM.trG AM.trOp AM.trCall AM.seqC AM.loopI
set_option maxRecDepth 100000
set_option linter.unusedVariables false
set_option linter.unusedSimpArgs false
set_option maxHeartbeats 2000000 in
theorem lawChecks {h : AHeap} {p : PProg} {row : List AVal} (R : ProgR h p row) (ok : p.Ok) :
  CallP AP 3 [.agg row] h fun r h' => HFrame h h' [] [] ∧ r = .bool true := by
 have R0 := R
 obtain ⟨tv,gv,fv,rfl,RT,RG,RF⟩ := R
 refine callP (rfl : Tr.get AP 3 = some A3) ?_
 generalize hQ : (fun (r : AVal) (h' : AHeap) => _) = Q
 have c4 := SlR.cellv RT
 have c5 := SlIn.cellv RG
 have c6 := SlR.cellv RF
 have f0 := (HFrame.refl (h := h) (F := []) (by simp)).pushTmp (.cells 0 false [tv,gv,fv])
 obtain ⟨hA,hhA⟩ : ∃ hA,hA = (h.push (.cells 0 false [tv,gv,fv])) := ⟨_,rfl⟩
 have gP0 : hA.get h.n = .cells 0 false [tv,gv,fv] := by rw [hhA]; simp -implicitDefEqProofs (disch := first|decide|assumption|omega|(simp -implicitDefEqProofs only [AM.RN];first|done|omega)|fail) only [↓AM.R0,AM.R1,AM.R2,Nat.reduceAdd,Nat.reduceLeDiff,Nat.reduceEqDiff,Int.reduceToNat,Nat.reduceLT,↓reduceIte,Int.reduceEq,Int.reduceLT,Int.reduceLE]
 have n0 : h.n + 1 ≤ hA.n := by rw [hhA]; simp
 simp -implicitDefEqProofs (disch := first|decide|assumption|omega|(simp -implicitDefEqProofs only [AM.RN];first|done|omega)|fail) only [↓AM.R0,AM.R1,AM.R2,Nat.reduceAdd,Nat.reduceLeDiff,Nat.reduceEqDiff,Int.reduceToNat,Nat.reduceLT,↓reduceIte,Int.reduceEq,Int.reduceLT,Int.reduceLE,c4,c5,c6]
 rw [← hhA] at f0 ⊢
 clear hhA
 refine AM.callI_of (check (R0.keep f0) ok) ?_
 rintro r h1 ⟨f1,rfl⟩
 have n1 : h.n + 1 ≤ h1.n := by have := f1.n; omega
 have gP1 : h1.get h.n = .cells 0 false [tv,gv,fv] := (f1.get _ (by omega) (by simp)).trans gP0
 have f01 := f0.trans f1
 have fT := (f01.pushTmp (.cells 0 false [.int .i64 0, .int .i64 0, .int .i64 0])).setTmp (i := h1.n) (by omega) (.cells 0 false [.int .i64 (checkF p).1, .int .i64 (checkF p).2.1, .int .i64 (checkF p).2.2])
 obtain ⟨hT,hhT⟩ : ∃ hT,hT = (h1.push (.cells 0 false [.int .i64 0, .int .i64 0, .int .i64 0])).set h1.n (.cells 0 false [.int .i64 (checkF p).1, .int .i64 (checkF p).2.1, .int .i64 (checkF p).2.2]) := ⟨_,rfl⟩
 have gT : hT.get h1.n = .cells 0 false [.int .i64 (checkF p).1, .int .i64 (checkF p).2.1, .int .i64 (checkF p).2.2] := by rw [hhT]; exact AHeap.get_set_same _ _ _
 have gPT : hT.get h.n = .cells 0 false [tv,gv,fv] := by rw [hhT,AHeap.get_set_ne _ _ (by omega), AHeap.get_push_ne _ _ (by omega)]; exact gP1
 have nT : hT.n = h1.n + 1 := by rw [hhT]; simp
 simp -implicitDefEqProofs (disch := first|decide|assumption|omega|(simp -implicitDefEqProofs only [AM.RN];first|done|omega)|fail) only [↓AM.R0,AM.R1,AM.R2,Nat.reduceAdd,Nat.reduceLeDiff,Nat.reduceEqDiff,Int.reduceToNat,Nat.reduceLT,↓reduceIte,Int.reduceEq,Int.reduceLT,Int.reduceLE, ← hhT,gPT,c4,c5,c6]
 rw [← hhT] at fT
 clear hhT
 refine AM.callI_of (rDoc (R0.keep fT) ok) ?_
 rintro r h2 ⟨f2,rfl⟩
 have n2 : h1.n + 1 ≤ h2.n := by have := f2.n; omega
 have gT2 : h2.get h1.n = _ := (f2.get _ (by omega) (by simp)).trans gT
 simp -implicitDefEqProofs (disch := first|decide|assumption|omega|(simp -implicitDefEqProofs only [AM.RN];first|done|omega)|fail) only [↓AM.R0,AM.R1,AM.R2,Nat.reduceAdd,Nat.reduceLeDiff,Nat.reduceEqDiff,Int.reduceToNat,Nat.reduceLT,↓reduceIte,Int.reduceEq,Int.reduceLT,Int.reduceLE]
 refine AM.callI_of (awake h2) ?_
 rintro r h3 ⟨f3,rfl⟩
 have gT3 : h3.get h1.n = _ := (f3.get _ (by omega) (by simp)).trans gT2
 have n3 : h1.n + 1 ≤ h3.n := by have := f3.n; omega
 simp -implicitDefEqProofs (disch := first|decide|assumption|omega|(simp -implicitDefEqProofs only [AM.RN];first|done|omega)|fail) only [↓AM.R0,AM.R1,AM.R2,Nat.reduceAdd,Nat.reduceLeDiff,Nat.reduceEqDiff,Int.reduceToNat,Nat.reduceLT,↓reduceIte,Int.reduceEq,Int.reduceLT,Int.reduceLE,gT3]
 subst hQ
 exact ⟨(fT.trans f2).trans f3,rfl⟩
end Go.Proofs.Ytofcnjglnnoimaa.Vf
