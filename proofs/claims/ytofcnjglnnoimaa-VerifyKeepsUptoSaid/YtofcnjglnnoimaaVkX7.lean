/-
 What the functions of this seat do,on the machine: lemmas for the laws.
-/
import Derived.Test.YtofcnjglnnoimaaVkX5
import Derived.Test.YtofcnjglnnoimaaVkX6
namespace Go.Proofs.Ytofcnjglnnoimaa.Vf
open Go Go.AM Go.Proofs.Ytofcnjglnnoimaa.AmGY
attribute [local irreducible] AM.wp AM.wpIs AM.wpTr AM.opI AM.gI AM.cI AM.trI AM.callI AM.fnI AM.trG AM.trOp AM.trCall AM.seqC AM.loopI
set_option maxRecDepth 100000
set_option linter.unusedVariables false
set_option linter.unusedSimpArgs false
def bodyF (p : PProg) (f : PFunc) (i : PIns) : Int :=
 if orB i.op [1,48] = true then alikeF f.slots (fun k => decide (k = 0) || decide (k = 1)) [i.a] else
 if orB i.op [2] = true then alikeF f.slots (fun _ => true) [i.a,i.b] else
 if orB i.op [3,4,5,6,7,8,9,10,11,12,13,14] = true then areF f.slots [(i.a,0), (i.b,0), (i.c,0)] else
 if orB i.op [15,16,17,18] = true then areF f.slots [(i.a,1), (i.b,1), (i.c,1)] else
 if orB i.op [19,20] = true then areF f.slots [(i.a,0), (i.b,1), (i.c,1)] else
 if orB i.op [21] = true then areF f.slots [(i.a,1), (i.b,0)] else
 if orB i.op [22,40] = true then (if i.op = 40 then areF f.slots [(i.a,0), (i.b,0)] else areF f.slots [(i.a,0), (i.b,1)]) else
 if orB i.op [23] = true then (if areF f.slots [(i.a,0)] ≠ 0 then areF f.slots [(i.a,0)] else alikeF f.slots (fun k => decide (16 ≤ k)) [i.b,i.c]) else
 if orB i.op [24,25] = true then jumpF f i else
 if orB i.op [39,46,52] = true then areF f.slots [(i.a,0)] else
 if orB i.op [47] = true then 0 else
 if orB i.op [49,51] = true then areF f.slots [(i.a,2), (i.b,0)] else
 if orB i.op [50] = true then areF f.slots [(i.a,0), (i.b,2)] else
 if orB i.op [26,27,28,29,30,31,32,33,34] = true then memF p f.slots i else
 if orB i.op [35,36,37,38] = true then callsF p f i else
 channelsF f.slots i
def insF (p : PProg) (f : PFunc) (i : PIns) : Int := if i.op < 1 ∨ 52 < i.op then 9 else if formF i ≠ 0 then formF i else bodyF p f i
theorem formF_len {i : PIns} (h : ¬ formF i ≠ 0) : i.list.length ≤ 24 := by
 rcases Nat.lt_or_ge 24 i.list.length with hl | hl
 ·exact absurd (by unfold formF; split <;> simp [hl]) h
 ·exact hl
set_option maxHeartbeats 8000000 in
theorem one {h : AHeap} {c : Nat} {p : PProg} {f : PFunc} {i : PIns} (C : CkR h c p f i) (H : Hs p f.slots) (T : Ht p) (hT : p.types.length ≤ 32) (HP : Hp p) :
  CallP AP 34 [.ptr c 0 0] h fun r h' => HFrame h h' [] [] ∧ r = .int .i64 (insF p f i) := by
 refine callP (rfl : Tr.get AP 34 = some A34) ?_
 generalize hQ : (fun (r : AVal) (h' : AHeap) => _) = Q
 have C0 := C
 obtain ⟨tv,gv,fv,sv,rv,cv,at_,lv,g,lt,s1,s2,s3,s4,s5,s6,hi,s7⟩ := C
 have cl := SlIn.cellv s7
 simp -implicitDefEqProofs (disch := first|decide|assumption|omega|(simp -implicitDefEqProofs only [AM.RN];first|done|omega)|fail) only [AM.RGB,↓AM.R0,AM.R1,AM.R2,Nat.reduceAdd,Nat.reduceLeDiff,Nat.reduceEqDiff,Int.reduceToNat,Nat.reduceLT,↓reduceIte,Int.reduceEq,Int.reduceLT,Int.reduceLE,g]
 refine AM.cI_bool (fun hb => ?_) (fun hb => ?_)
 ·simp -implicitDefEqProofs (disch := first|decide|assumption|omega|(simp -implicitDefEqProofs only [AM.RN];first|done|omega)|fail) only [↓AM.R0,AM.R1,AM.R2,Nat.reduceAdd,Nat.reduceLeDiff,Nat.reduceEqDiff,Int.reduceToNat,Nat.reduceLT,↓reduceIte,Int.reduceEq,Int.reduceLT,Int.reduceLE]
  simp only [Bool.or_eq_true,decide_eq_true_eq] at hb
  subst hQ
  exact ⟨HFrame.refl (by simp), by rw [insF,if_pos hb]⟩
 simp only [Bool.or_eq_false_iff,decide_eq_false_iff_not] at hb
 simp -implicitDefEqProofs (disch := first|decide|assumption|omega|(simp -implicitDefEqProofs only [AM.RN];first|done|omega)|fail) only [↓AM.R0,AM.R1,AM.R2,Nat.reduceAdd,Nat.reduceLeDiff,Nat.reduceEqDiff,Int.reduceToNat,Nat.reduceLT,↓reduceIte,Int.reduceEq,Int.reduceLT,Int.reduceLE,g]
 refine AM.callI_of (shape i.op h) ?_
 rintro r h1 ⟨rfl,rfl⟩
 simp -implicitDefEqProofs (disch := first|decide|assumption|omega|(simp -implicitDefEqProofs only [AM.RN];first|done|omega)|fail) only [↓AM.R0,AM.R1,AM.R2,Nat.reduceAdd,Nat.reduceLeDiff,Nat.reduceEqDiff,Int.reduceToNat,Nat.reduceLT,↓reduceIte,Int.reduceEq,Int.reduceLT,Int.reduceLE]
 refine AM.callI_of (plain C0) ?_
 rintro r h1 ⟨f1,rfl⟩
 simp -implicitDefEqProofs (disch := first|decide|assumption|omega|(simp -implicitDefEqProofs only [AM.RN];first|done|omega)|fail) only [↓AM.R0,AM.R1,AM.R2,Nat.reduceAdd,Nat.reduceLeDiff,Nat.reduceEqDiff,Int.reduceToNat,Nat.reduceLT,↓reduceIte,Int.reduceEq,Int.reduceLT,Int.reduceLE]
 refine AM.cI_bool (fun hc => ?_) (fun hc => ?_)
 ·have hc' : formF i ≠ 0 := by simpa using hc
  simp -implicitDefEqProofs (disch := first|decide|assumption|omega|(simp -implicitDefEqProofs only [AM.RN];first|done|omega)|fail) only [↓AM.R0,AM.R1,AM.R2,Nat.reduceAdd,Nat.reduceLeDiff,Nat.reduceEqDiff,Int.reduceToNat,Nat.reduceLT,↓reduceIte,Int.reduceEq,Int.reduceLT,Int.reduceLE]
  subst hQ
  exact ⟨f1,by rw [insF,if_neg (by omega), if_pos hc']⟩
 have hc' : ¬ formF i ≠ 0 := by simpa using hc
 have hl := formF_len hc'
 have hm : insF p f i = bodyF p f i := by rw [insF,if_neg (by omega), if_neg hc']
 rw [hm] at hQ
 have g1 := (f1.get c lt (by simp)).trans g
 have lt1 : c < h1.n := by have := f1.n; omega
 simp -implicitDefEqProofs (disch := first|decide|assumption|omega|(simp -implicitDefEqProofs only [AM.RN];first|done|omega)|fail) only [↓AM.R0,AM.R1,AM.R2,Nat.reduceAdd,Nat.reduceLeDiff,Nat.reduceEqDiff,Int.reduceToNat,Nat.reduceLT,↓reduceIte,Int.reduceEq,Int.reduceLT,Int.reduceLE,g1,cl]
 have fT := (f1.pushTmp (.cells 0 false [.int .i64 0, .int .i64 0, .int .i64 0, .int .i64 0, .int .u64 0, .nils])).setTmp (i := h1.n) f1.n (.cells 0 false [.int .i64 i.op, .int .i64 i.a, .int .i64 i.b, .int .i64 i.c, .int .u64 i.imm,lv])
 have gB := AHeap.get_set_same (h1.push (.cells 0 false [.int .i64 0, .int .i64 0, .int .i64 0, .int .i64 0, .int .u64 0, .nils])) h1.n (.cells 0 false [.int .i64 i.op, .int .i64 i.a, .int .i64 i.b, .int .i64 i.c, .int .u64 i.imm,lv])
 have hn0 : h1.n < ((h1.push (.cells 0 false [.int .i64 0, .int .i64 0, .int .i64 0, .int .i64 0, .int .u64 0, .nils])).set h1.n (.cells 0 false [.int .i64 i.op, .int .i64 i.a, .int .i64 i.b, .int .i64 i.c, .int .u64 i.imm,lv])).n := by simp
 generalize ((h1.push (.cells 0 false [.int .i64 0, .int .i64 0, .int .i64 0, .int .i64 0, .int .u64 0, .nils])).set h1.n (.cells 0 false [.int .i64 i.op, .int .i64 i.a, .int .i64 i.b, .int .i64 i.c, .int .u64 i.imm,lv])) = hT2 at *
 have C2 := C0.keep fT
 have R2 : InsR hT2 i [.int .i64 i.op, .int .i64 i.a, .int .i64 i.b, .int .i64 i.c, .int .u64 i.imm,lv] := ⟨hi,lv,rfl,s7.keep fT⟩
 obtain ⟨X,hX⟩ : ∃ X,X = bodyF p f i := ⟨_,rfl⟩
 rw [← hX] at hQ
 rw [bodyF] at hX
 refine cI_or (t := 40) (s := 39) (x := i.op) (by decide) [(42,48)] (by simp -implicitDefEqProofs (disch := first|decide|assumption|omega|(simp -implicitDefEqProofs only [AM.RN];first|done|omega)|fail) only [↓AM.R0,AM.R1,AM.R2,Nat.reduceAdd,Nat.reduceLeDiff,Nat.reduceEqDiff,Int.reduceToNat,Nat.reduceLT,↓reduceIte,Int.reduceEq,Int.reduceLT,Int.reduceLE,gB]) (by simp -implicitDefEqProofs (disch := first|decide|assumption|omega|(simp -implicitDefEqProofs only [AM.RN];first|done|omega)|fail) only [↓AM.R0,AM.R1,AM.R2,Nat.reduceAdd,Nat.reduceLeDiff,Nat.reduceEqDiff,Int.reduceToNat,Nat.reduceLT,↓reduceIte,Int.reduceEq,Int.reduceLT,Int.reduceLE,gB]) (by decide) ?_
 intro e' ht hk
 have e0' : Env.val e' 0 = .ptr c 0 0 := (hk 0 (by decide) (by decide)).trans (by simp -implicitDefEqProofs (disch := first|decide|assumption|omega|(simp -implicitDefEqProofs only [AM.RN];first|done|omega)|fail) only [↓AM.R0,AM.R1,AM.R2,Nat.reduceAdd,Nat.reduceLeDiff,Nat.reduceEqDiff,Int.reduceToNat,Nat.reduceLT,↓reduceIte,Int.reduceEq,Int.reduceLT,Int.reduceLE,gB])
 have e4' : Env.val e' 4 = .ptr h1.n 0 0 := (hk 4 (by decide) (by decide)).trans (by simp -implicitDefEqProofs (disch := first|decide|assumption|omega|(simp -implicitDefEqProofs only [AM.RN];first|done|omega)|fail) only [↓AM.R0,AM.R1,AM.R2,Nat.reduceAdd,Nat.reduceLeDiff,Nat.reduceEqDiff,Int.reduceToNat,Nat.reduceLT,↓reduceIte,Int.reduceEq,Int.reduceLT,Int.reduceLE,gB])
 have e39' : Env.val e' 39 = .int .i64 i.op := (hk 39 (by decide) (by decide)).trans (by simp -implicitDefEqProofs (disch := first|decide|assumption|omega|(simp -implicitDefEqProofs only [AM.RN];first|done|omega)|fail) only [↓AM.R0,AM.R1,AM.R2,Nat.reduceAdd,Nat.reduceLeDiff,Nat.reduceEqDiff,Int.reduceToNat,Nat.reduceLT,↓reduceIte,Int.reduceEq,Int.reduceLT,Int.reduceLE,gB])
 clear hk
 try clear e0
 have e0 := e0'
 clear e0'
 try clear e4
 have e4 := e4'
 clear e4'
 try clear e39
 have e39 := e39'
 clear e39'
 simp -implicitDefEqProofs (disch := first|decide|assumption|omega|(simp -implicitDefEqProofs only [AM.RN];first|done|omega)|fail) only [↓AM.R0,AM.R1,AM.R2,Nat.reduceAdd,Nat.reduceLeDiff,Nat.reduceEqDiff,Int.reduceToNat,Nat.reduceLT,↓reduceIte,Int.reduceEq,Int.reduceLT,Int.reduceLE,ht]
 refine AM.cI_bool (fun hb => ?_) (fun hb => ?_)
 ·have m : orB i.op [1,48] = true := hb
  clear hb
  rw [if_pos m] at hX
  simp -implicitDefEqProofs (disch := first|decide|assumption|omega|(simp -implicitDefEqProofs only [AM.RN];first|done|omega)|fail) only [↓AM.R0,AM.R1,AM.R2,Nat.reduceAdd,Nat.reduceLeDiff,Nat.reduceEqDiff,Int.reduceToNat,Nat.reduceLT,↓reduceIte,Int.reduceEq,Int.reduceLT,Int.reduceLE,e0,e4,gB,AM.a_buildSlice,List.range,List.range.loop,List.getD_cons_zero,Nat.mod_one]
  refine AM.callI_of (alike1 C2 _ _ 54 rfl number i.a) ?_
  rintro r h3 ⟨f3,rfl⟩
  simp -implicitDefEqProofs (disch := first|decide|assumption|omega|(simp -implicitDefEqProofs only [AM.RN];first|done|omega)|fail) only [↓AM.R0,AM.R1,AM.R2,Nat.reduceAdd,Nat.reduceLeDiff,Nat.reduceEqDiff,Int.reduceToNat,Nat.reduceLT,↓reduceIte,Int.reduceEq,Int.reduceLT,Int.reduceLE]
  subst hQ
  exact ⟨fT.trans f3,by rw [hX]⟩
 have m : orB i.op [1,48] = false := hb
 clear hb
 rw [if_neg (by simp [m])] at hX
 clear m
 clear ht
 simp -implicitDefEqProofs (disch := first|decide|assumption|omega|(simp -implicitDefEqProofs only [AM.RN];first|done|omega)|fail) only [↓AM.R0,AM.R1,AM.R2,Nat.reduceAdd,Nat.reduceLeDiff,Nat.reduceEqDiff,Int.reduceToNat,Nat.reduceLT,↓reduceIte,Int.reduceEq,Int.reduceLT,Int.reduceLE,e0,e4,e39]
 refine AM.cI_bool (fun hb => ?_) (fun hb => ?_)
 ·have m : orB i.op [2] = true := (Bool.or_false _).trans hb
  clear hb
  rw [if_pos m] at hX
  simp -implicitDefEqProofs (disch := first|decide|assumption|omega|(simp -implicitDefEqProofs only [AM.RN];first|done|omega)|fail) only [↓AM.R0,AM.R1,AM.R2,Nat.reduceAdd,Nat.reduceLeDiff,Nat.reduceEqDiff,Int.reduceToNat,Nat.reduceLT,↓reduceIte,Int.reduceEq,Int.reduceLT,Int.reduceLE,e0,e4,gB,AM.a_buildSlice,List.range,List.range.loop,List.getD_cons_zero,Nat.mod_one]
  refine AM.callI_of (alike2 C2 _ _ 55 rfl any i.a i.b) ?_
  rintro r h3 ⟨f3,rfl⟩
  simp -implicitDefEqProofs (disch := first|decide|assumption|omega|(simp -implicitDefEqProofs only [AM.RN];first|done|omega)|fail) only [↓AM.R0,AM.R1,AM.R2,Nat.reduceAdd,Nat.reduceLeDiff,Nat.reduceEqDiff,Int.reduceToNat,Nat.reduceLT,↓reduceIte,Int.reduceEq,Int.reduceLT,Int.reduceLE]
  subst hQ
  exact ⟨fT.trans f3,by rw [hX]⟩
 have m : orB i.op [2] = false := (Bool.or_false _).trans hb
 clear hb
 rw [if_neg (by simp [m])] at hX
 clear m
 simp -implicitDefEqProofs (disch := first|decide|assumption|omega|(simp -implicitDefEqProofs only [AM.RN];first|done|omega)|fail) only [↓AM.R0,AM.R1,AM.R2,Nat.reduceAdd,Nat.reduceLeDiff,Nat.reduceEqDiff,Int.reduceToNat,Nat.reduceLT,↓reduceIte,Int.reduceEq,Int.reduceLT,Int.reduceLE,e0,e4,e39]
 refine cI_or (t := 57) (s := 39) (x := i.op) (by decide) [(59,4), (60,5), (61,6), (62,7), (63,8), (64,9), (65,10), (66,11), (67,12), (68,13), (69,14)] (by simp -implicitDefEqProofs (disch := first|decide|assumption|omega|(simp -implicitDefEqProofs only [AM.RN];first|done|omega)|fail) only [↓AM.R0,AM.R1,AM.R2,Nat.reduceAdd,Nat.reduceLeDiff,Nat.reduceEqDiff,Int.reduceToNat,Nat.reduceLT,↓reduceIte,Int.reduceEq,Int.reduceLT,Int.reduceLE,e0,e4,e39,gB]) (by simp -implicitDefEqProofs (disch := first|decide|assumption|omega|(simp -implicitDefEqProofs only [AM.RN];first|done|omega)|fail) only [↓AM.R0,AM.R1,AM.R2,Nat.reduceAdd,Nat.reduceLeDiff,Nat.reduceEqDiff,Int.reduceToNat,Nat.reduceLT,↓reduceIte,Int.reduceEq,Int.reduceLT,Int.reduceLE,e0,e4,e39,gB]) (by decide) ?_
 intro e' ht hk
 have e0' : Env.val e' 0 = .ptr c 0 0 := (hk 0 (by decide) (by decide)).trans (by simp -implicitDefEqProofs (disch := first|decide|assumption|omega|(simp -implicitDefEqProofs only [AM.RN];first|done|omega)|fail) only [↓AM.R0,AM.R1,AM.R2,Nat.reduceAdd,Nat.reduceLeDiff,Nat.reduceEqDiff,Int.reduceToNat,Nat.reduceLT,↓reduceIte,Int.reduceEq,Int.reduceLT,Int.reduceLE,e0,e4,e39,gB])
 have e4' : Env.val e' 4 = .ptr h1.n 0 0 := (hk 4 (by decide) (by decide)).trans (by simp -implicitDefEqProofs (disch := first|decide|assumption|omega|(simp -implicitDefEqProofs only [AM.RN];first|done|omega)|fail) only [↓AM.R0,AM.R1,AM.R2,Nat.reduceAdd,Nat.reduceLeDiff,Nat.reduceEqDiff,Int.reduceToNat,Nat.reduceLT,↓reduceIte,Int.reduceEq,Int.reduceLT,Int.reduceLE,e0,e4,e39,gB])
 have e39' : Env.val e' 39 = .int .i64 i.op := (hk 39 (by decide) (by decide)).trans (by simp -implicitDefEqProofs (disch := first|decide|assumption|omega|(simp -implicitDefEqProofs only [AM.RN];first|done|omega)|fail) only [↓AM.R0,AM.R1,AM.R2,Nat.reduceAdd,Nat.reduceLeDiff,Nat.reduceEqDiff,Int.reduceToNat,Nat.reduceLT,↓reduceIte,Int.reduceEq,Int.reduceLT,Int.reduceLE,e0,e4,e39,gB])
 clear hk
 try clear e0
 have e0 := e0'
 clear e0'
 try clear e4
 have e4 := e4'
 clear e4'
 try clear e39
 have e39 := e39'
 clear e39'
 simp -implicitDefEqProofs (disch := first|decide|assumption|omega|(simp -implicitDefEqProofs only [AM.RN];first|done|omega)|fail) only [↓AM.R0,AM.R1,AM.R2,Nat.reduceAdd,Nat.reduceLeDiff,Nat.reduceEqDiff,Int.reduceToNat,Nat.reduceLT,↓reduceIte,Int.reduceEq,Int.reduceLT,Int.reduceLE,ht]
 refine AM.cI_bool (fun hb => ?_) (fun hb => ?_)
 ·have m : orB i.op [3,4,5,6,7,8,9,10,11,12,13,14] = true := hb
  clear hb
  rw [if_pos m] at hX
  simp -implicitDefEqProofs (disch := first|decide|assumption|omega|(simp -implicitDefEqProofs only [AM.RN];first|done|omega)|fail) only [↓AM.R0,AM.R1,AM.R2,Nat.reduceAdd,Nat.reduceLeDiff,Nat.reduceEqDiff,Int.reduceToNat,Nat.reduceLT,↓reduceIte,Int.reduceEq,Int.reduceLT,Int.reduceLE,e0,e4,gB,AM.a_buildSlice,List.range,List.range.loop,List.getD_cons_zero,Nat.mod_one]
  refine AM.callI_of (are3 C2 i.a 0 i.b 0 i.c 0) ?_
  rintro r h3 ⟨f3,rfl⟩
  simp -implicitDefEqProofs (disch := first|decide|assumption|omega|(simp -implicitDefEqProofs only [AM.RN];first|done|omega)|fail) only [↓AM.R0,AM.R1,AM.R2,Nat.reduceAdd,Nat.reduceLeDiff,Nat.reduceEqDiff,Int.reduceToNat,Nat.reduceLT,↓reduceIte,Int.reduceEq,Int.reduceLT,Int.reduceLE]
  subst hQ
  exact ⟨fT.trans f3,by rw [hX]⟩
 have m : orB i.op [3,4,5,6,7,8,9,10,11,12,13,14] = false := hb
 clear hb
 rw [if_neg (by simp [m])] at hX
 clear m
 clear ht
 simp -implicitDefEqProofs (disch := first|decide|assumption|omega|(simp -implicitDefEqProofs only [AM.RN];first|done|omega)|fail) only [↓AM.R0,AM.R1,AM.R2,Nat.reduceAdd,Nat.reduceLeDiff,Nat.reduceEqDiff,Int.reduceToNat,Nat.reduceLT,↓reduceIte,Int.reduceEq,Int.reduceLT,Int.reduceLE,e0,e4,e39]
 refine cI_or (t := 79) (s := 39) (x := i.op) (by decide) [(81,16), (82,17), (83,18)] (by simp -implicitDefEqProofs (disch := first|decide|assumption|omega|(simp -implicitDefEqProofs only [AM.RN];first|done|omega)|fail) only [↓AM.R0,AM.R1,AM.R2,Nat.reduceAdd,Nat.reduceLeDiff,Nat.reduceEqDiff,Int.reduceToNat,Nat.reduceLT,↓reduceIte,Int.reduceEq,Int.reduceLT,Int.reduceLE,e0,e4,e39,gB]) (by simp -implicitDefEqProofs (disch := first|decide|assumption|omega|(simp -implicitDefEqProofs only [AM.RN];first|done|omega)|fail) only [↓AM.R0,AM.R1,AM.R2,Nat.reduceAdd,Nat.reduceLeDiff,Nat.reduceEqDiff,Int.reduceToNat,Nat.reduceLT,↓reduceIte,Int.reduceEq,Int.reduceLT,Int.reduceLE,e0,e4,e39,gB]) (by decide) ?_
 intro e' ht hk
 have e0' : Env.val e' 0 = .ptr c 0 0 := (hk 0 (by decide) (by decide)).trans (by simp -implicitDefEqProofs (disch := first|decide|assumption|omega|(simp -implicitDefEqProofs only [AM.RN];first|done|omega)|fail) only [↓AM.R0,AM.R1,AM.R2,Nat.reduceAdd,Nat.reduceLeDiff,Nat.reduceEqDiff,Int.reduceToNat,Nat.reduceLT,↓reduceIte,Int.reduceEq,Int.reduceLT,Int.reduceLE,e0,e4,e39,gB])
 have e4' : Env.val e' 4 = .ptr h1.n 0 0 := (hk 4 (by decide) (by decide)).trans (by simp -implicitDefEqProofs (disch := first|decide|assumption|omega|(simp -implicitDefEqProofs only [AM.RN];first|done|omega)|fail) only [↓AM.R0,AM.R1,AM.R2,Nat.reduceAdd,Nat.reduceLeDiff,Nat.reduceEqDiff,Int.reduceToNat,Nat.reduceLT,↓reduceIte,Int.reduceEq,Int.reduceLT,Int.reduceLE,e0,e4,e39,gB])
 have e39' : Env.val e' 39 = .int .i64 i.op := (hk 39 (by decide) (by decide)).trans (by simp -implicitDefEqProofs (disch := first|decide|assumption|omega|(simp -implicitDefEqProofs only [AM.RN];first|done|omega)|fail) only [↓AM.R0,AM.R1,AM.R2,Nat.reduceAdd,Nat.reduceLeDiff,Nat.reduceEqDiff,Int.reduceToNat,Nat.reduceLT,↓reduceIte,Int.reduceEq,Int.reduceLT,Int.reduceLE,e0,e4,e39,gB])
 clear hk
 try clear e0
 have e0 := e0'
 clear e0'
 try clear e4
 have e4 := e4'
 clear e4'
 try clear e39
 have e39 := e39'
 clear e39'
 simp -implicitDefEqProofs (disch := first|decide|assumption|omega|(simp -implicitDefEqProofs only [AM.RN];first|done|omega)|fail) only [↓AM.R0,AM.R1,AM.R2,Nat.reduceAdd,Nat.reduceLeDiff,Nat.reduceEqDiff,Int.reduceToNat,Nat.reduceLT,↓reduceIte,Int.reduceEq,Int.reduceLT,Int.reduceLE,ht]
 refine AM.cI_bool (fun hb => ?_) (fun hb => ?_)
 ·have m : orB i.op [15,16,17,18] = true := hb
  clear hb
  rw [if_pos m] at hX
  simp -implicitDefEqProofs (disch := first|decide|assumption|omega|(simp -implicitDefEqProofs only [AM.RN];first|done|omega)|fail) only [↓AM.R0,AM.R1,AM.R2,Nat.reduceAdd,Nat.reduceLeDiff,Nat.reduceEqDiff,Int.reduceToNat,Nat.reduceLT,↓reduceIte,Int.reduceEq,Int.reduceLT,Int.reduceLE,e0,e4,gB,AM.a_buildSlice,List.range,List.range.loop,List.getD_cons_zero,Nat.mod_one]
  refine AM.callI_of (are3 C2 i.a 1 i.b 1 i.c 1) ?_
  rintro r h3 ⟨f3,rfl⟩
  simp -implicitDefEqProofs (disch := first|decide|assumption|omega|(simp -implicitDefEqProofs only [AM.RN];first|done|omega)|fail) only [↓AM.R0,AM.R1,AM.R2,Nat.reduceAdd,Nat.reduceLeDiff,Nat.reduceEqDiff,Int.reduceToNat,Nat.reduceLT,↓reduceIte,Int.reduceEq,Int.reduceLT,Int.reduceLE]
  subst hQ
  exact ⟨fT.trans f3,by rw [hX]⟩
 have m : orB i.op [15,16,17,18] = false := hb
 clear hb
 rw [if_neg (by simp [m])] at hX
 clear m
 clear ht
 simp -implicitDefEqProofs (disch := first|decide|assumption|omega|(simp -implicitDefEqProofs only [AM.RN];first|done|omega)|fail) only [↓AM.R0,AM.R1,AM.R2,Nat.reduceAdd,Nat.reduceLeDiff,Nat.reduceEqDiff,Int.reduceToNat,Nat.reduceLT,↓reduceIte,Int.reduceEq,Int.reduceLT,Int.reduceLE,e0,e4,e39]
 refine cI_or (t := 93) (s := 39) (x := i.op) (by decide) [(95,20)] (by simp -implicitDefEqProofs (disch := first|decide|assumption|omega|(simp -implicitDefEqProofs only [AM.RN];first|done|omega)|fail) only [↓AM.R0,AM.R1,AM.R2,Nat.reduceAdd,Nat.reduceLeDiff,Nat.reduceEqDiff,Int.reduceToNat,Nat.reduceLT,↓reduceIte,Int.reduceEq,Int.reduceLT,Int.reduceLE,e0,e4,e39,gB]) (by simp -implicitDefEqProofs (disch := first|decide|assumption|omega|(simp -implicitDefEqProofs only [AM.RN];first|done|omega)|fail) only [↓AM.R0,AM.R1,AM.R2,Nat.reduceAdd,Nat.reduceLeDiff,Nat.reduceEqDiff,Int.reduceToNat,Nat.reduceLT,↓reduceIte,Int.reduceEq,Int.reduceLT,Int.reduceLE,e0,e4,e39,gB]) (by decide) ?_
 intro e' ht hk
 have e0' : Env.val e' 0 = .ptr c 0 0 := (hk 0 (by decide) (by decide)).trans (by simp -implicitDefEqProofs (disch := first|decide|assumption|omega|(simp -implicitDefEqProofs only [AM.RN];first|done|omega)|fail) only [↓AM.R0,AM.R1,AM.R2,Nat.reduceAdd,Nat.reduceLeDiff,Nat.reduceEqDiff,Int.reduceToNat,Nat.reduceLT,↓reduceIte,Int.reduceEq,Int.reduceLT,Int.reduceLE,e0,e4,e39,gB])
 have e4' : Env.val e' 4 = .ptr h1.n 0 0 := (hk 4 (by decide) (by decide)).trans (by simp -implicitDefEqProofs (disch := first|decide|assumption|omega|(simp -implicitDefEqProofs only [AM.RN];first|done|omega)|fail) only [↓AM.R0,AM.R1,AM.R2,Nat.reduceAdd,Nat.reduceLeDiff,Nat.reduceEqDiff,Int.reduceToNat,Nat.reduceLT,↓reduceIte,Int.reduceEq,Int.reduceLT,Int.reduceLE,e0,e4,e39,gB])
 have e39' : Env.val e' 39 = .int .i64 i.op := (hk 39 (by decide) (by decide)).trans (by simp -implicitDefEqProofs (disch := first|decide|assumption|omega|(simp -implicitDefEqProofs only [AM.RN];first|done|omega)|fail) only [↓AM.R0,AM.R1,AM.R2,Nat.reduceAdd,Nat.reduceLeDiff,Nat.reduceEqDiff,Int.reduceToNat,Nat.reduceLT,↓reduceIte,Int.reduceEq,Int.reduceLT,Int.reduceLE,e0,e4,e39,gB])
 clear hk
 try clear e0
 have e0 := e0'
 clear e0'
 try clear e4
 have e4 := e4'
 clear e4'
 try clear e39
 have e39 := e39'
 clear e39'
 simp -implicitDefEqProofs (disch := first|decide|assumption|omega|(simp -implicitDefEqProofs only [AM.RN];first|done|omega)|fail) only [↓AM.R0,AM.R1,AM.R2,Nat.reduceAdd,Nat.reduceLeDiff,Nat.reduceEqDiff,Int.reduceToNat,Nat.reduceLT,↓reduceIte,Int.reduceEq,Int.reduceLT,Int.reduceLE,ht]
 refine AM.cI_bool (fun hb => ?_) (fun hb => ?_)
 ·have m : orB i.op [19,20] = true := hb
  clear hb
  rw [if_pos m] at hX
  simp -implicitDefEqProofs (disch := first|decide|assumption|omega|(simp -implicitDefEqProofs only [AM.RN];first|done|omega)|fail) only [↓AM.R0,AM.R1,AM.R2,Nat.reduceAdd,Nat.reduceLeDiff,Nat.reduceEqDiff,Int.reduceToNat,Nat.reduceLT,↓reduceIte,Int.reduceEq,Int.reduceLT,Int.reduceLE,e0,e4,gB,AM.a_buildSlice,List.range,List.range.loop,List.getD_cons_zero,Nat.mod_one]
  refine AM.callI_of (are3 C2 i.a 0 i.b 1 i.c 1) ?_
  rintro r h3 ⟨f3,rfl⟩
  simp -implicitDefEqProofs (disch := first|decide|assumption|omega|(simp -implicitDefEqProofs only [AM.RN];first|done|omega)|fail) only [↓AM.R0,AM.R1,AM.R2,Nat.reduceAdd,Nat.reduceLeDiff,Nat.reduceEqDiff,Int.reduceToNat,Nat.reduceLT,↓reduceIte,Int.reduceEq,Int.reduceLT,Int.reduceLE]
  subst hQ
  exact ⟨fT.trans f3,by rw [hX]⟩
 have m : orB i.op [19,20] = false := hb
 clear hb
 rw [if_neg (by simp [m])] at hX
 clear m
 clear ht
 simp -implicitDefEqProofs (disch := first|decide|assumption|omega|(simp -implicitDefEqProofs only [AM.RN];first|done|omega)|fail) only [↓AM.R0,AM.R1,AM.R2,Nat.reduceAdd,Nat.reduceLeDiff,Nat.reduceEqDiff,Int.reduceToNat,Nat.reduceLT,↓reduceIte,Int.reduceEq,Int.reduceLT,Int.reduceLE,e0,e4,e39]
 refine AM.cI_bool (fun hb => ?_) (fun hb => ?_)
 ·have m : orB i.op [21] = true := (Bool.or_false _).trans hb
  clear hb
  rw [if_pos m] at hX
  simp -implicitDefEqProofs (disch := first|decide|assumption|omega|(simp -implicitDefEqProofs only [AM.RN];first|done|omega)|fail) only [↓AM.R0,AM.R1,AM.R2,Nat.reduceAdd,Nat.reduceLeDiff,Nat.reduceEqDiff,Int.reduceToNat,Nat.reduceLT,↓reduceIte,Int.reduceEq,Int.reduceLT,Int.reduceLE,e0,e4,gB,AM.a_buildSlice,List.range,List.range.loop,List.getD_cons_zero,Nat.mod_one]
  refine AM.callI_of (are2 C2 i.a 1 i.b 0) ?_
  rintro r h3 ⟨f3,rfl⟩
  simp -implicitDefEqProofs (disch := first|decide|assumption|omega|(simp -implicitDefEqProofs only [AM.RN];first|done|omega)|fail) only [↓AM.R0,AM.R1,AM.R2,Nat.reduceAdd,Nat.reduceLeDiff,Nat.reduceEqDiff,Int.reduceToNat,Nat.reduceLT,↓reduceIte,Int.reduceEq,Int.reduceLT,Int.reduceLE]
  subst hQ
  exact ⟨fT.trans f3,by rw [hX]⟩
 have m : orB i.op [21] = false := (Bool.or_false _).trans hb
 clear hb
 rw [if_neg (by simp [m])] at hX
 clear m
 simp -implicitDefEqProofs (disch := first|decide|assumption|omega|(simp -implicitDefEqProofs only [AM.RN];first|done|omega)|fail) only [↓AM.R0,AM.R1,AM.R2,Nat.reduceAdd,Nat.reduceLeDiff,Nat.reduceEqDiff,Int.reduceToNat,Nat.reduceLT,↓reduceIte,Int.reduceEq,Int.reduceLT,Int.reduceLE,e0,e4,e39]
 refine cI_or (t := 114) (s := 39) (x := i.op) (by decide) [(116,40)] (by simp -implicitDefEqProofs (disch := first|decide|assumption|omega|(simp -implicitDefEqProofs only [AM.RN];first|done|omega)|fail) only [↓AM.R0,AM.R1,AM.R2,Nat.reduceAdd,Nat.reduceLeDiff,Nat.reduceEqDiff,Int.reduceToNat,Nat.reduceLT,↓reduceIte,Int.reduceEq,Int.reduceLT,Int.reduceLE,e0,e4,e39,gB]) (by simp -implicitDefEqProofs (disch := first|decide|assumption|omega|(simp -implicitDefEqProofs only [AM.RN];first|done|omega)|fail) only [↓AM.R0,AM.R1,AM.R2,Nat.reduceAdd,Nat.reduceLeDiff,Nat.reduceEqDiff,Int.reduceToNat,Nat.reduceLT,↓reduceIte,Int.reduceEq,Int.reduceLT,Int.reduceLE,e0,e4,e39,gB]) (by decide) ?_
 intro e' ht hk
 have e0' : Env.val e' 0 = .ptr c 0 0 := (hk 0 (by decide) (by decide)).trans (by simp -implicitDefEqProofs (disch := first|decide|assumption|omega|(simp -implicitDefEqProofs only [AM.RN];first|done|omega)|fail) only [↓AM.R0,AM.R1,AM.R2,Nat.reduceAdd,Nat.reduceLeDiff,Nat.reduceEqDiff,Int.reduceToNat,Nat.reduceLT,↓reduceIte,Int.reduceEq,Int.reduceLT,Int.reduceLE,e0,e4,e39,gB])
 have e4' : Env.val e' 4 = .ptr h1.n 0 0 := (hk 4 (by decide) (by decide)).trans (by simp -implicitDefEqProofs (disch := first|decide|assumption|omega|(simp -implicitDefEqProofs only [AM.RN];first|done|omega)|fail) only [↓AM.R0,AM.R1,AM.R2,Nat.reduceAdd,Nat.reduceLeDiff,Nat.reduceEqDiff,Int.reduceToNat,Nat.reduceLT,↓reduceIte,Int.reduceEq,Int.reduceLT,Int.reduceLE,e0,e4,e39,gB])
 have e39' : Env.val e' 39 = .int .i64 i.op := (hk 39 (by decide) (by decide)).trans (by simp -implicitDefEqProofs (disch := first|decide|assumption|omega|(simp -implicitDefEqProofs only [AM.RN];first|done|omega)|fail) only [↓AM.R0,AM.R1,AM.R2,Nat.reduceAdd,Nat.reduceLeDiff,Nat.reduceEqDiff,Int.reduceToNat,Nat.reduceLT,↓reduceIte,Int.reduceEq,Int.reduceLT,Int.reduceLE,e0,e4,e39,gB])
 clear hk
 try clear e0
 have e0 := e0'
 clear e0'
 try clear e4
 have e4 := e4'
 clear e4'
 try clear e39
 have e39 := e39'
 clear e39'
 simp -implicitDefEqProofs (disch := first|decide|assumption|omega|(simp -implicitDefEqProofs only [AM.RN];first|done|omega)|fail) only [↓AM.R0,AM.R1,AM.R2,Nat.reduceAdd,Nat.reduceLeDiff,Nat.reduceEqDiff,Int.reduceToNat,Nat.reduceLT,↓reduceIte,Int.reduceEq,Int.reduceLT,Int.reduceLE,ht]
 refine AM.cI_bool (fun hb => ?_) (fun hb => ?_)
 ·have m : orB i.op [22,40] = true := hb
  clear hb
  rw [if_pos m] at hX
  simp -implicitDefEqProofs (disch := first|decide|assumption|omega|(simp -implicitDefEqProofs only [AM.RN];first|done|omega)|fail) only [↓AM.R0,AM.R1,AM.R2,Nat.reduceAdd,Nat.reduceLeDiff,Nat.reduceEqDiff,Int.reduceToNat,Nat.reduceLT,↓reduceIte,Int.reduceEq,Int.reduceLT,Int.reduceLE,e0,e4,gB]
  refine AM.cI_bool (fun hd => ?_) (fun hd => ?_)
  ·simp only [decide_eq_true_eq] at hd
   rw [if_pos hd] at hX
   simp -implicitDefEqProofs (disch := first|decide|assumption|omega|(simp -implicitDefEqProofs only [AM.RN];first|done|omega)|fail) only [↓AM.R0,AM.R1,AM.R2,Nat.reduceAdd,Nat.reduceLeDiff,Nat.reduceEqDiff,Int.reduceToNat,Nat.reduceLT,↓reduceIte,Int.reduceEq,Int.reduceLT,Int.reduceLE,e0,e4,gB,AM.a_buildSlice,List.range,List.range.loop,List.getD_cons_zero,Nat.mod_one]
   refine AM.callI_of (are2 C2 i.a 0 i.b 0) ?_
   rintro r h3 ⟨f3,rfl⟩
   simp -implicitDefEqProofs (disch := first|decide|assumption|omega|(simp -implicitDefEqProofs only [AM.RN];first|done|omega)|fail) only [↓AM.R0,AM.R1,AM.R2,Nat.reduceAdd,Nat.reduceLeDiff,Nat.reduceEqDiff,Int.reduceToNat,Nat.reduceLT,↓reduceIte,Int.reduceEq,Int.reduceLT,Int.reduceLE]
   subst hQ
   exact ⟨fT.trans f3,by rw [hX]⟩
  ·simp only [decide_eq_false_iff_not] at hd
   rw [if_neg hd] at hX
   simp -implicitDefEqProofs (disch := first|decide|assumption|omega|(simp -implicitDefEqProofs only [AM.RN];first|done|omega)|fail) only [↓AM.R0,AM.R1,AM.R2,Nat.reduceAdd,Nat.reduceLeDiff,Nat.reduceEqDiff,Int.reduceToNat,Nat.reduceLT,↓reduceIte,Int.reduceEq,Int.reduceLT,Int.reduceLE,e0,e4,gB,AM.a_buildSlice,List.range,List.range.loop,List.getD_cons_zero,Nat.mod_one]
   refine AM.callI_of (are2 C2 i.a 0 i.b 1) ?_
   rintro r h3 ⟨f3,rfl⟩
   simp -implicitDefEqProofs (disch := first|decide|assumption|omega|(simp -implicitDefEqProofs only [AM.RN];first|done|omega)|fail) only [↓AM.R0,AM.R1,AM.R2,Nat.reduceAdd,Nat.reduceLeDiff,Nat.reduceEqDiff,Int.reduceToNat,Nat.reduceLT,↓reduceIte,Int.reduceEq,Int.reduceLT,Int.reduceLE]
   subst hQ
   exact ⟨fT.trans f3,by rw [hX]⟩
 have m : orB i.op [22,40] = false := hb
 clear hb
 rw [if_neg (by simp [m])] at hX
 clear m
 clear ht
 simp -implicitDefEqProofs (disch := first|decide|assumption|omega|(simp -implicitDefEqProofs only [AM.RN];first|done|omega)|fail) only [↓AM.R0,AM.R1,AM.R2,Nat.reduceAdd,Nat.reduceLeDiff,Nat.reduceEqDiff,Int.reduceToNat,Nat.reduceLT,↓reduceIte,Int.reduceEq,Int.reduceLT,Int.reduceLE,e0,e4,e39]
 refine AM.cI_bool (fun hb => ?_) (fun hb => ?_)
 ·have m : orB i.op [23] = true := (Bool.or_false _).trans hb
  clear hb
  rw [if_pos m] at hX
  simp -implicitDefEqProofs (disch := first|decide|assumption|omega|(simp -implicitDefEqProofs only [AM.RN];first|done|omega)|fail) only [↓AM.R0,AM.R1,AM.R2,Nat.reduceAdd,Nat.reduceLeDiff,Nat.reduceEqDiff,Int.reduceToNat,Nat.reduceLT,↓reduceIte,Int.reduceEq,Int.reduceLT,Int.reduceLE,e0,e4,gB,AM.a_buildSlice,List.range,List.range.loop,List.getD_cons_zero,Nat.mod_one]
  refine AM.callI_of (are1 C2 i.a 0) ?_
  rintro r h3 ⟨f3,rfl⟩
  have gB3 := (f3.get h1.n hn0 (by simp)).trans gB
  have hn3 : h1.n < h3.n := by have := f3.n; omega
  simp -implicitDefEqProofs (disch := first|decide|assumption|omega|(simp -implicitDefEqProofs only [AM.RN];first|done|omega)|fail) only [↓AM.R0,AM.R1,AM.R2,Nat.reduceAdd,Nat.reduceLeDiff,Nat.reduceEqDiff,Int.reduceToNat,Nat.reduceLT,↓reduceIte,Int.reduceEq,Int.reduceLT,Int.reduceLE]
  refine AM.cI_bool (fun hd => ?_) (fun hd => ?_)
  ·have hd' : areF f.slots [(i.a,0)] ≠ 0 := by simpa using hd
   rw [if_pos hd'] at hX
   simp -implicitDefEqProofs (disch := first|decide|assumption|omega|(simp -implicitDefEqProofs only [AM.RN];first|done|omega)|fail) only [↓AM.R0,AM.R1,AM.R2,Nat.reduceAdd,Nat.reduceLeDiff,Nat.reduceEqDiff,Int.reduceToNat,Nat.reduceLT,↓reduceIte,Int.reduceEq,Int.reduceLT,Int.reduceLE]
   subst hQ
   exact ⟨fT.trans f3,by rw [hX]⟩
  ·have hd' : ¬ areF f.slots [(i.a,0)] ≠ 0 := by simpa using hd
   rw [if_neg hd'] at hX
   simp -implicitDefEqProofs (disch := first|decide|assumption|omega|(simp -implicitDefEqProofs only [AM.RN];first|done|omega)|fail) only [↓AM.R0,AM.R1,AM.R2,Nat.reduceAdd,Nat.reduceLeDiff,Nat.reduceEqDiff,Int.reduceToNat,Nat.reduceLT,↓reduceIte,Int.reduceEq,Int.reduceLT,Int.reduceLE,e0,e4,gB3,AM.a_buildSlice,List.range,List.range.loop,List.getD_cons_zero,Nat.mod_one]
   refine AM.callI_of (alike2 (C2.keep f3) _ _ 19 rfl isRef i.b i.c) ?_
   rintro r h4 ⟨f4,rfl⟩
   simp -implicitDefEqProofs (disch := first|decide|assumption|omega|(simp -implicitDefEqProofs only [AM.RN];first|done|omega)|fail) only [↓AM.R0,AM.R1,AM.R2,Nat.reduceAdd,Nat.reduceLeDiff,Nat.reduceEqDiff,Int.reduceToNat,Nat.reduceLT,↓reduceIte,Int.reduceEq,Int.reduceLT,Int.reduceLE]
   subst hQ
   exact ⟨(fT.trans f3).trans f4,by rw [hX]⟩
 have m : orB i.op [23] = false := (Bool.or_false _).trans hb
 clear hb
 rw [if_neg (by simp [m])] at hX
 clear m
 simp -implicitDefEqProofs (disch := first|decide|assumption|omega|(simp -implicitDefEqProofs only [AM.RN];first|done|omega)|fail) only [↓AM.R0,AM.R1,AM.R2,Nat.reduceAdd,Nat.reduceLeDiff,Nat.reduceEqDiff,Int.reduceToNat,Nat.reduceLT,↓reduceIte,Int.reduceEq,Int.reduceLT,Int.reduceLE,e0,e4,e39]
 refine cI_or (t := 151) (s := 39) (x := i.op) (by decide) [(153,25)] (by simp -implicitDefEqProofs (disch := first|decide|assumption|omega|(simp -implicitDefEqProofs only [AM.RN];first|done|omega)|fail) only [↓AM.R0,AM.R1,AM.R2,Nat.reduceAdd,Nat.reduceLeDiff,Nat.reduceEqDiff,Int.reduceToNat,Nat.reduceLT,↓reduceIte,Int.reduceEq,Int.reduceLT,Int.reduceLE,e0,e4,e39,gB]) (by simp -implicitDefEqProofs (disch := first|decide|assumption|omega|(simp -implicitDefEqProofs only [AM.RN];first|done|omega)|fail) only [↓AM.R0,AM.R1,AM.R2,Nat.reduceAdd,Nat.reduceLeDiff,Nat.reduceEqDiff,Int.reduceToNat,Nat.reduceLT,↓reduceIte,Int.reduceEq,Int.reduceLT,Int.reduceLE,e0,e4,e39,gB]) (by decide) ?_
 intro e' ht hk
 have e0' : Env.val e' 0 = .ptr c 0 0 := (hk 0 (by decide) (by decide)).trans (by simp -implicitDefEqProofs (disch := first|decide|assumption|omega|(simp -implicitDefEqProofs only [AM.RN];first|done|omega)|fail) only [↓AM.R0,AM.R1,AM.R2,Nat.reduceAdd,Nat.reduceLeDiff,Nat.reduceEqDiff,Int.reduceToNat,Nat.reduceLT,↓reduceIte,Int.reduceEq,Int.reduceLT,Int.reduceLE,e0,e4,e39,gB])
 have e4' : Env.val e' 4 = .ptr h1.n 0 0 := (hk 4 (by decide) (by decide)).trans (by simp -implicitDefEqProofs (disch := first|decide|assumption|omega|(simp -implicitDefEqProofs only [AM.RN];first|done|omega)|fail) only [↓AM.R0,AM.R1,AM.R2,Nat.reduceAdd,Nat.reduceLeDiff,Nat.reduceEqDiff,Int.reduceToNat,Nat.reduceLT,↓reduceIte,Int.reduceEq,Int.reduceLT,Int.reduceLE,e0,e4,e39,gB])
 have e39' : Env.val e' 39 = .int .i64 i.op := (hk 39 (by decide) (by decide)).trans (by simp -implicitDefEqProofs (disch := first|decide|assumption|omega|(simp -implicitDefEqProofs only [AM.RN];first|done|omega)|fail) only [↓AM.R0,AM.R1,AM.R2,Nat.reduceAdd,Nat.reduceLeDiff,Nat.reduceEqDiff,Int.reduceToNat,Nat.reduceLT,↓reduceIte,Int.reduceEq,Int.reduceLT,Int.reduceLE,e0,e4,e39,gB])
 clear hk
 try clear e0
 have e0 := e0'
 clear e0'
 try clear e4
 have e4 := e4'
 clear e4'
 try clear e39
 have e39 := e39'
 clear e39'
 simp -implicitDefEqProofs (disch := first|decide|assumption|omega|(simp -implicitDefEqProofs only [AM.RN];first|done|omega)|fail) only [↓AM.R0,AM.R1,AM.R2,Nat.reduceAdd,Nat.reduceLeDiff,Nat.reduceEqDiff,Int.reduceToNat,Nat.reduceLT,↓reduceIte,Int.reduceEq,Int.reduceLT,Int.reduceLE,ht]
 refine AM.cI_bool (fun hb => ?_) (fun hb => ?_)
 ·have m : orB i.op [24,25] = true := hb
  clear hb
  rw [if_pos m] at hX
  simp -implicitDefEqProofs (disch := first|decide|assumption|omega|(simp -implicitDefEqProofs only [AM.RN];first|done|omega)|fail) only [↓AM.R0,AM.R1,AM.R2,Nat.reduceAdd,Nat.reduceLeDiff,Nat.reduceEqDiff,Int.reduceToNat,Nat.reduceLT,↓reduceIte,Int.reduceEq,Int.reduceLT,Int.reduceLE,e0,e4,gB,AM.a_buildSlice,List.range,List.range.loop,List.getD_cons_zero,Nat.mod_one]
  refine AM.callI_of (jump C2 R2) ?_
  rintro r h3 ⟨f3,rfl⟩
  simp -implicitDefEqProofs (disch := first|decide|assumption|omega|(simp -implicitDefEqProofs only [AM.RN];first|done|omega)|fail) only [↓AM.R0,AM.R1,AM.R2,Nat.reduceAdd,Nat.reduceLeDiff,Nat.reduceEqDiff,Int.reduceToNat,Nat.reduceLT,↓reduceIte,Int.reduceEq,Int.reduceLT,Int.reduceLE]
  subst hQ
  exact ⟨fT.trans f3,by rw [hX]⟩
 have m : orB i.op [24,25] = false := hb
 clear hb
 rw [if_neg (by simp [m])] at hX
 clear m
 clear ht
 simp -implicitDefEqProofs (disch := first|decide|assumption|omega|(simp -implicitDefEqProofs only [AM.RN];first|done|omega)|fail) only [↓AM.R0,AM.R1,AM.R2,Nat.reduceAdd,Nat.reduceLeDiff,Nat.reduceEqDiff,Int.reduceToNat,Nat.reduceLT,↓reduceIte,Int.reduceEq,Int.reduceLT,Int.reduceLE,e0,e4,e39]
 refine cI_or (t := 157) (s := 39) (x := i.op) (by decide) [(159,46), (160,52)] (by simp -implicitDefEqProofs (disch := first|decide|assumption|omega|(simp -implicitDefEqProofs only [AM.RN];first|done|omega)|fail) only [↓AM.R0,AM.R1,AM.R2,Nat.reduceAdd,Nat.reduceLeDiff,Nat.reduceEqDiff,Int.reduceToNat,Nat.reduceLT,↓reduceIte,Int.reduceEq,Int.reduceLT,Int.reduceLE,e0,e4,e39,gB]) (by simp -implicitDefEqProofs (disch := first|decide|assumption|omega|(simp -implicitDefEqProofs only [AM.RN];first|done|omega)|fail) only [↓AM.R0,AM.R1,AM.R2,Nat.reduceAdd,Nat.reduceLeDiff,Nat.reduceEqDiff,Int.reduceToNat,Nat.reduceLT,↓reduceIte,Int.reduceEq,Int.reduceLT,Int.reduceLE,e0,e4,e39,gB]) (by decide) ?_
 intro e' ht hk
 have e0' : Env.val e' 0 = .ptr c 0 0 := (hk 0 (by decide) (by decide)).trans (by simp -implicitDefEqProofs (disch := first|decide|assumption|omega|(simp -implicitDefEqProofs only [AM.RN];first|done|omega)|fail) only [↓AM.R0,AM.R1,AM.R2,Nat.reduceAdd,Nat.reduceLeDiff,Nat.reduceEqDiff,Int.reduceToNat,Nat.reduceLT,↓reduceIte,Int.reduceEq,Int.reduceLT,Int.reduceLE,e0,e4,e39,gB])
 have e4' : Env.val e' 4 = .ptr h1.n 0 0 := (hk 4 (by decide) (by decide)).trans (by simp -implicitDefEqProofs (disch := first|decide|assumption|omega|(simp -implicitDefEqProofs only [AM.RN];first|done|omega)|fail) only [↓AM.R0,AM.R1,AM.R2,Nat.reduceAdd,Nat.reduceLeDiff,Nat.reduceEqDiff,Int.reduceToNat,Nat.reduceLT,↓reduceIte,Int.reduceEq,Int.reduceLT,Int.reduceLE,e0,e4,e39,gB])
 have e39' : Env.val e' 39 = .int .i64 i.op := (hk 39 (by decide) (by decide)).trans (by simp -implicitDefEqProofs (disch := first|decide|assumption|omega|(simp -implicitDefEqProofs only [AM.RN];first|done|omega)|fail) only [↓AM.R0,AM.R1,AM.R2,Nat.reduceAdd,Nat.reduceLeDiff,Nat.reduceEqDiff,Int.reduceToNat,Nat.reduceLT,↓reduceIte,Int.reduceEq,Int.reduceLT,Int.reduceLE,e0,e4,e39,gB])
 clear hk
 try clear e0
 have e0 := e0'
 clear e0'
 try clear e4
 have e4 := e4'
 clear e4'
 try clear e39
 have e39 := e39'
 clear e39'
 simp -implicitDefEqProofs (disch := first|decide|assumption|omega|(simp -implicitDefEqProofs only [AM.RN];first|done|omega)|fail) only [↓AM.R0,AM.R1,AM.R2,Nat.reduceAdd,Nat.reduceLeDiff,Nat.reduceEqDiff,Int.reduceToNat,Nat.reduceLT,↓reduceIte,Int.reduceEq,Int.reduceLT,Int.reduceLE,ht]
 refine AM.cI_bool (fun hb => ?_) (fun hb => ?_)
 ·have m : orB i.op [39,46,52] = true := hb
  clear hb
  rw [if_pos m] at hX
  simp -implicitDefEqProofs (disch := first|decide|assumption|omega|(simp -implicitDefEqProofs only [AM.RN];first|done|omega)|fail) only [↓AM.R0,AM.R1,AM.R2,Nat.reduceAdd,Nat.reduceLeDiff,Nat.reduceEqDiff,Int.reduceToNat,Nat.reduceLT,↓reduceIte,Int.reduceEq,Int.reduceLT,Int.reduceLE,e0,e4,gB,AM.a_buildSlice,List.range,List.range.loop,List.getD_cons_zero,Nat.mod_one]
  refine AM.callI_of (are1 C2 i.a 0) ?_
  rintro r h3 ⟨f3,rfl⟩
  simp -implicitDefEqProofs (disch := first|decide|assumption|omega|(simp -implicitDefEqProofs only [AM.RN];first|done|omega)|fail) only [↓AM.R0,AM.R1,AM.R2,Nat.reduceAdd,Nat.reduceLeDiff,Nat.reduceEqDiff,Int.reduceToNat,Nat.reduceLT,↓reduceIte,Int.reduceEq,Int.reduceLT,Int.reduceLE]
  subst hQ
  exact ⟨fT.trans f3,by rw [hX]⟩
 have m : orB i.op [39,46,52] = false := hb
 clear hb
 rw [if_neg (by simp [m])] at hX
 clear m
 clear ht
 simp -implicitDefEqProofs (disch := first|decide|assumption|omega|(simp -implicitDefEqProofs only [AM.RN];first|done|omega)|fail) only [↓AM.R0,AM.R1,AM.R2,Nat.reduceAdd,Nat.reduceLeDiff,Nat.reduceEqDiff,Int.reduceToNat,Nat.reduceLT,↓reduceIte,Int.reduceEq,Int.reduceLT,Int.reduceLE,e0,e4,e39]
 refine AM.cI_bool (fun hb => ?_) (fun hb => ?_)
 ·have m : orB i.op [47] = true := (Bool.or_false _).trans hb
  clear hb
  rw [if_pos m] at hX
  simp -implicitDefEqProofs (disch := first|decide|assumption|omega|(simp -implicitDefEqProofs only [AM.RN];first|done|omega)|fail) only [↓AM.R0,AM.R1,AM.R2,Nat.reduceAdd,Nat.reduceLeDiff,Nat.reduceEqDiff,Int.reduceToNat,Nat.reduceLT,↓reduceIte,Int.reduceEq,Int.reduceLT,Int.reduceLE]
  subst hQ
  exact ⟨fT,by rw [hX]⟩
 have m : orB i.op [47] = false := (Bool.or_false _).trans hb
 clear hb
 rw [if_neg (by simp [m])] at hX
 clear m
 simp -implicitDefEqProofs (disch := first|decide|assumption|omega|(simp -implicitDefEqProofs only [AM.RN];first|done|omega)|fail) only [↓AM.R0,AM.R1,AM.R2,Nat.reduceAdd,Nat.reduceLeDiff,Nat.reduceEqDiff,Int.reduceToNat,Nat.reduceLT,↓reduceIte,Int.reduceEq,Int.reduceLT,Int.reduceLE,e0,e4,e39]
 refine cI_or (t := 168) (s := 39) (x := i.op) (by decide) [(170,51)] (by simp -implicitDefEqProofs (disch := first|decide|assumption|omega|(simp -implicitDefEqProofs only [AM.RN];first|done|omega)|fail) only [↓AM.R0,AM.R1,AM.R2,Nat.reduceAdd,Nat.reduceLeDiff,Nat.reduceEqDiff,Int.reduceToNat,Nat.reduceLT,↓reduceIte,Int.reduceEq,Int.reduceLT,Int.reduceLE,e0,e4,e39,gB]) (by simp -implicitDefEqProofs (disch := first|decide|assumption|omega|(simp -implicitDefEqProofs only [AM.RN];first|done|omega)|fail) only [↓AM.R0,AM.R1,AM.R2,Nat.reduceAdd,Nat.reduceLeDiff,Nat.reduceEqDiff,Int.reduceToNat,Nat.reduceLT,↓reduceIte,Int.reduceEq,Int.reduceLT,Int.reduceLE,e0,e4,e39,gB]) (by decide) ?_
 intro e' ht hk
 have e0' : Env.val e' 0 = .ptr c 0 0 := (hk 0 (by decide) (by decide)).trans (by simp -implicitDefEqProofs (disch := first|decide|assumption|omega|(simp -implicitDefEqProofs only [AM.RN];first|done|omega)|fail) only [↓AM.R0,AM.R1,AM.R2,Nat.reduceAdd,Nat.reduceLeDiff,Nat.reduceEqDiff,Int.reduceToNat,Nat.reduceLT,↓reduceIte,Int.reduceEq,Int.reduceLT,Int.reduceLE,e0,e4,e39,gB])
 have e4' : Env.val e' 4 = .ptr h1.n 0 0 := (hk 4 (by decide) (by decide)).trans (by simp -implicitDefEqProofs (disch := first|decide|assumption|omega|(simp -implicitDefEqProofs only [AM.RN];first|done|omega)|fail) only [↓AM.R0,AM.R1,AM.R2,Nat.reduceAdd,Nat.reduceLeDiff,Nat.reduceEqDiff,Int.reduceToNat,Nat.reduceLT,↓reduceIte,Int.reduceEq,Int.reduceLT,Int.reduceLE,e0,e4,e39,gB])
 have e39' : Env.val e' 39 = .int .i64 i.op := (hk 39 (by decide) (by decide)).trans (by simp -implicitDefEqProofs (disch := first|decide|assumption|omega|(simp -implicitDefEqProofs only [AM.RN];first|done|omega)|fail) only [↓AM.R0,AM.R1,AM.R2,Nat.reduceAdd,Nat.reduceLeDiff,Nat.reduceEqDiff,Int.reduceToNat,Nat.reduceLT,↓reduceIte,Int.reduceEq,Int.reduceLT,Int.reduceLE,e0,e4,e39,gB])
 clear hk
 try clear e0
 have e0 := e0'
 clear e0'
 try clear e4
 have e4 := e4'
 clear e4'
 try clear e39
 have e39 := e39'
 clear e39'
 simp -implicitDefEqProofs (disch := first|decide|assumption|omega|(simp -implicitDefEqProofs only [AM.RN];first|done|omega)|fail) only [↓AM.R0,AM.R1,AM.R2,Nat.reduceAdd,Nat.reduceLeDiff,Nat.reduceEqDiff,Int.reduceToNat,Nat.reduceLT,↓reduceIte,Int.reduceEq,Int.reduceLT,Int.reduceLE,ht]
 refine AM.cI_bool (fun hb => ?_) (fun hb => ?_)
 ·have m : orB i.op [49,51] = true := hb
  clear hb
  rw [if_pos m] at hX
  simp -implicitDefEqProofs (disch := first|decide|assumption|omega|(simp -implicitDefEqProofs only [AM.RN];first|done|omega)|fail) only [↓AM.R0,AM.R1,AM.R2,Nat.reduceAdd,Nat.reduceLeDiff,Nat.reduceEqDiff,Int.reduceToNat,Nat.reduceLT,↓reduceIte,Int.reduceEq,Int.reduceLT,Int.reduceLE,e0,e4,gB,AM.a_buildSlice,List.range,List.range.loop,List.getD_cons_zero,Nat.mod_one]
  refine AM.callI_of (are2 C2 i.a 2 i.b 0) ?_
  rintro r h3 ⟨f3,rfl⟩
  simp -implicitDefEqProofs (disch := first|decide|assumption|omega|(simp -implicitDefEqProofs only [AM.RN];first|done|omega)|fail) only [↓AM.R0,AM.R1,AM.R2,Nat.reduceAdd,Nat.reduceLeDiff,Nat.reduceEqDiff,Int.reduceToNat,Nat.reduceLT,↓reduceIte,Int.reduceEq,Int.reduceLT,Int.reduceLE]
  subst hQ
  exact ⟨fT.trans f3,by rw [hX]⟩
 have m : orB i.op [49,51] = false := hb
 clear hb
 rw [if_neg (by simp [m])] at hX
 clear m
 clear ht
 simp -implicitDefEqProofs (disch := first|decide|assumption|omega|(simp -implicitDefEqProofs only [AM.RN];first|done|omega)|fail) only [↓AM.R0,AM.R1,AM.R2,Nat.reduceAdd,Nat.reduceLeDiff,Nat.reduceEqDiff,Int.reduceToNat,Nat.reduceLT,↓reduceIte,Int.reduceEq,Int.reduceLT,Int.reduceLE,e0,e4,e39]
 refine AM.cI_bool (fun hb => ?_) (fun hb => ?_)
 ·have m : orB i.op [50] = true := (Bool.or_false _).trans hb
  clear hb
  rw [if_pos m] at hX
  simp -implicitDefEqProofs (disch := first|decide|assumption|omega|(simp -implicitDefEqProofs only [AM.RN];first|done|omega)|fail) only [↓AM.R0,AM.R1,AM.R2,Nat.reduceAdd,Nat.reduceLeDiff,Nat.reduceEqDiff,Int.reduceToNat,Nat.reduceLT,↓reduceIte,Int.reduceEq,Int.reduceLT,Int.reduceLE,e0,e4,gB,AM.a_buildSlice,List.range,List.range.loop,List.getD_cons_zero,Nat.mod_one]
  refine AM.callI_of (are2 C2 i.a 0 i.b 2) ?_
  rintro r h3 ⟨f3,rfl⟩
  simp -implicitDefEqProofs (disch := first|decide|assumption|omega|(simp -implicitDefEqProofs only [AM.RN];first|done|omega)|fail) only [↓AM.R0,AM.R1,AM.R2,Nat.reduceAdd,Nat.reduceLeDiff,Nat.reduceEqDiff,Int.reduceToNat,Nat.reduceLT,↓reduceIte,Int.reduceEq,Int.reduceLT,Int.reduceLE]
  subst hQ
  exact ⟨fT.trans f3,by rw [hX]⟩
 have m : orB i.op [50] = false := (Bool.or_false _).trans hb
 clear hb
 rw [if_neg (by simp [m])] at hX
 clear m
 simp -implicitDefEqProofs (disch := first|decide|assumption|omega|(simp -implicitDefEqProofs only [AM.RN];first|done|omega)|fail) only [↓AM.R0,AM.R1,AM.R2,Nat.reduceAdd,Nat.reduceLeDiff,Nat.reduceEqDiff,Int.reduceToNat,Nat.reduceLT,↓reduceIte,Int.reduceEq,Int.reduceLT,Int.reduceLE,e0,e4,e39]
 refine cI_or (t := 187) (s := 39) (x := i.op) (by decide) [(189,27), (190,28), (191,29), (192,30), (193,31), (194,32), (195,33), (196,34)] (by simp -implicitDefEqProofs (disch := first|decide|assumption|omega|(simp -implicitDefEqProofs only [AM.RN];first|done|omega)|fail) only [↓AM.R0,AM.R1,AM.R2,Nat.reduceAdd,Nat.reduceLeDiff,Nat.reduceEqDiff,Int.reduceToNat,Nat.reduceLT,↓reduceIte,Int.reduceEq,Int.reduceLT,Int.reduceLE,e0,e4,e39,gB]) (by simp -implicitDefEqProofs (disch := first|decide|assumption|omega|(simp -implicitDefEqProofs only [AM.RN];first|done|omega)|fail) only [↓AM.R0,AM.R1,AM.R2,Nat.reduceAdd,Nat.reduceLeDiff,Nat.reduceEqDiff,Int.reduceToNat,Nat.reduceLT,↓reduceIte,Int.reduceEq,Int.reduceLT,Int.reduceLE,e0,e4,e39,gB]) (by decide) ?_
 intro e' ht hk
 have e0' : Env.val e' 0 = .ptr c 0 0 := (hk 0 (by decide) (by decide)).trans (by simp -implicitDefEqProofs (disch := first|decide|assumption|omega|(simp -implicitDefEqProofs only [AM.RN];first|done|omega)|fail) only [↓AM.R0,AM.R1,AM.R2,Nat.reduceAdd,Nat.reduceLeDiff,Nat.reduceEqDiff,Int.reduceToNat,Nat.reduceLT,↓reduceIte,Int.reduceEq,Int.reduceLT,Int.reduceLE,e0,e4,e39,gB])
 have e4' : Env.val e' 4 = .ptr h1.n 0 0 := (hk 4 (by decide) (by decide)).trans (by simp -implicitDefEqProofs (disch := first|decide|assumption|omega|(simp -implicitDefEqProofs only [AM.RN];first|done|omega)|fail) only [↓AM.R0,AM.R1,AM.R2,Nat.reduceAdd,Nat.reduceLeDiff,Nat.reduceEqDiff,Int.reduceToNat,Nat.reduceLT,↓reduceIte,Int.reduceEq,Int.reduceLT,Int.reduceLE,e0,e4,e39,gB])
 have e39' : Env.val e' 39 = .int .i64 i.op := (hk 39 (by decide) (by decide)).trans (by simp -implicitDefEqProofs (disch := first|decide|assumption|omega|(simp -implicitDefEqProofs only [AM.RN];first|done|omega)|fail) only [↓AM.R0,AM.R1,AM.R2,Nat.reduceAdd,Nat.reduceLeDiff,Nat.reduceEqDiff,Int.reduceToNat,Nat.reduceLT,↓reduceIte,Int.reduceEq,Int.reduceLT,Int.reduceLE,e0,e4,e39,gB])
 clear hk
 try clear e0
 have e0 := e0'
 clear e0'
 try clear e4
 have e4 := e4'
 clear e4'
 try clear e39
 have e39 := e39'
 clear e39'
 simp -implicitDefEqProofs (disch := first|decide|assumption|omega|(simp -implicitDefEqProofs only [AM.RN];first|done|omega)|fail) only [↓AM.R0,AM.R1,AM.R2,Nat.reduceAdd,Nat.reduceLeDiff,Nat.reduceEqDiff,Int.reduceToNat,Nat.reduceLT,↓reduceIte,Int.reduceEq,Int.reduceLT,Int.reduceLE,ht]
 refine AM.cI_bool (fun hb => ?_) (fun hb => ?_)
 ·have m : orB i.op [26,27,28,29,30,31,32,33,34] = true := hb
  clear hb
  rw [if_pos m] at hX
  simp -implicitDefEqProofs (disch := first|decide|assumption|omega|(simp -implicitDefEqProofs only [AM.RN];first|done|omega)|fail) only [↓AM.R0,AM.R1,AM.R2,Nat.reduceAdd,Nat.reduceLeDiff,Nat.reduceEqDiff,Int.reduceToNat,Nat.reduceLT,↓reduceIte,Int.reduceEq,Int.reduceLT,Int.reduceLE,e0,e4,gB,AM.a_buildSlice,List.range,List.range.loop,List.getD_cons_zero,Nat.mod_one]
  refine AM.callI_of (memory C2 H T hT R2) ?_
  rintro r h3 ⟨f3,rfl⟩
  simp -implicitDefEqProofs (disch := first|decide|assumption|omega|(simp -implicitDefEqProofs only [AM.RN];first|done|omega)|fail) only [↓AM.R0,AM.R1,AM.R2,Nat.reduceAdd,Nat.reduceLeDiff,Nat.reduceEqDiff,Int.reduceToNat,Nat.reduceLT,↓reduceIte,Int.reduceEq,Int.reduceLT,Int.reduceLE]
  subst hQ
  exact ⟨fT.trans f3,by rw [hX]⟩
 have m : orB i.op [26,27,28,29,30,31,32,33,34] = false := hb
 clear hb
 rw [if_neg (by simp [m])] at hX
 clear m
 clear ht
 simp -implicitDefEqProofs (disch := first|decide|assumption|omega|(simp -implicitDefEqProofs only [AM.RN];first|done|omega)|fail) only [↓AM.R0,AM.R1,AM.R2,Nat.reduceAdd,Nat.reduceLeDiff,Nat.reduceEqDiff,Int.reduceToNat,Nat.reduceLT,↓reduceIte,Int.reduceEq,Int.reduceLT,Int.reduceLE,e0,e4,e39]
 refine cI_or (t := 200) (s := 39) (x := i.op) (by decide) [(202,36), (203,37), (204,38)] (by simp -implicitDefEqProofs (disch := first|decide|assumption|omega|(simp -implicitDefEqProofs only [AM.RN];first|done|omega)|fail) only [↓AM.R0,AM.R1,AM.R2,Nat.reduceAdd,Nat.reduceLeDiff,Nat.reduceEqDiff,Int.reduceToNat,Nat.reduceLT,↓reduceIte,Int.reduceEq,Int.reduceLT,Int.reduceLE,e0,e4,e39,gB]) (by simp -implicitDefEqProofs (disch := first|decide|assumption|omega|(simp -implicitDefEqProofs only [AM.RN];first|done|omega)|fail) only [↓AM.R0,AM.R1,AM.R2,Nat.reduceAdd,Nat.reduceLeDiff,Nat.reduceEqDiff,Int.reduceToNat,Nat.reduceLT,↓reduceIte,Int.reduceEq,Int.reduceLT,Int.reduceLE,e0,e4,e39,gB]) (by decide) ?_
 intro e' ht hk
 have e0' : Env.val e' 0 = .ptr c 0 0 := (hk 0 (by decide) (by decide)).trans (by simp -implicitDefEqProofs (disch := first|decide|assumption|omega|(simp -implicitDefEqProofs only [AM.RN];first|done|omega)|fail) only [↓AM.R0,AM.R1,AM.R2,Nat.reduceAdd,Nat.reduceLeDiff,Nat.reduceEqDiff,Int.reduceToNat,Nat.reduceLT,↓reduceIte,Int.reduceEq,Int.reduceLT,Int.reduceLE,e0,e4,e39,gB])
 have e4' : Env.val e' 4 = .ptr h1.n 0 0 := (hk 4 (by decide) (by decide)).trans (by simp -implicitDefEqProofs (disch := first|decide|assumption|omega|(simp -implicitDefEqProofs only [AM.RN];first|done|omega)|fail) only [↓AM.R0,AM.R1,AM.R2,Nat.reduceAdd,Nat.reduceLeDiff,Nat.reduceEqDiff,Int.reduceToNat,Nat.reduceLT,↓reduceIte,Int.reduceEq,Int.reduceLT,Int.reduceLE,e0,e4,e39,gB])
 have e39' : Env.val e' 39 = .int .i64 i.op := (hk 39 (by decide) (by decide)).trans (by simp -implicitDefEqProofs (disch := first|decide|assumption|omega|(simp -implicitDefEqProofs only [AM.RN];first|done|omega)|fail) only [↓AM.R0,AM.R1,AM.R2,Nat.reduceAdd,Nat.reduceLeDiff,Nat.reduceEqDiff,Int.reduceToNat,Nat.reduceLT,↓reduceIte,Int.reduceEq,Int.reduceLT,Int.reduceLE,e0,e4,e39,gB])
 clear hk
 try clear e0
 have e0 := e0'
 clear e0'
 try clear e4
 have e4 := e4'
 clear e4'
 try clear e39
 have e39 := e39'
 clear e39'
 simp -implicitDefEqProofs (disch := first|decide|assumption|omega|(simp -implicitDefEqProofs only [AM.RN];first|done|omega)|fail) only [↓AM.R0,AM.R1,AM.R2,Nat.reduceAdd,Nat.reduceLeDiff,Nat.reduceEqDiff,Int.reduceToNat,Nat.reduceLT,↓reduceIte,Int.reduceEq,Int.reduceLT,Int.reduceLE,ht]
 refine AM.cI_bool (fun hb => ?_) (fun hb => ?_)
 ·have m : orB i.op [35,36,37,38] = true := hb
  clear hb
  rw [if_pos m] at hX
  simp -implicitDefEqProofs (disch := first|decide|assumption|omega|(simp -implicitDefEqProofs only [AM.RN];first|done|omega)|fail) only [↓AM.R0,AM.R1,AM.R2,Nat.reduceAdd,Nat.reduceLeDiff,Nat.reduceEqDiff,Int.reduceToNat,Nat.reduceLT,↓reduceIte,Int.reduceEq,Int.reduceLT,Int.reduceLE,e0,e4,gB,AM.a_buildSlice,List.range,List.range.loop,List.getD_cons_zero,Nat.mod_one]
  refine AM.callI_of (calls C2 HP hl R2) ?_
  rintro r h3 ⟨f3,rfl⟩
  simp -implicitDefEqProofs (disch := first|decide|assumption|omega|(simp -implicitDefEqProofs only [AM.RN];first|done|omega)|fail) only [↓AM.R0,AM.R1,AM.R2,Nat.reduceAdd,Nat.reduceLeDiff,Nat.reduceEqDiff,Int.reduceToNat,Nat.reduceLT,↓reduceIte,Int.reduceEq,Int.reduceLT,Int.reduceLE]
  subst hQ
  exact ⟨fT.trans f3,by rw [hX]⟩
 have m : orB i.op [35,36,37,38] = false := hb
 clear hb
 rw [if_neg (by simp [m])] at hX
 clear m
 clear ht
 simp -implicitDefEqProofs (disch := first|decide|assumption|omega|(simp -implicitDefEqProofs only [AM.RN];first|done|omega)|fail) only [↓AM.R0,AM.R1,AM.R2,Nat.reduceAdd,Nat.reduceLeDiff,Nat.reduceEqDiff,Int.reduceToNat,Nat.reduceLT,↓reduceIte,Int.reduceEq,Int.reduceLT,Int.reduceLE,e0,e4,e39,gB]
 refine AM.callI_of (channels C2 H hl R2) ?_
 rintro r h3 ⟨f3,rfl⟩
 simp -implicitDefEqProofs (disch := first|decide|assumption|omega|(simp -implicitDefEqProofs only [AM.RN];first|done|omega)|fail) only [↓AM.R0,AM.R1,AM.R2,Nat.reduceAdd,Nat.reduceLeDiff,Nat.reduceEqDiff,Int.reduceToNat,Nat.reduceLT,↓reduceIte,Int.reduceEq,Int.reduceLT,Int.reduceLE]
 subst hQ
 exact ⟨fT.trans f3,by rw [hX]⟩
end Go.Proofs.Ytofcnjglnnoimaa.Vf
namespace Go.Proofs.Ytofcnjglnnoimaa.Vf
open Go Go.AM Go.Proofs.Ytofcnjglnnoimaa.AmGY
attribute [local irreducible] AM.wp AM.wpIs AM.wpTr AM.opI AM.gI AM.cI AM.trI AM.callI AM.fnI AM.trG AM.trOp AM.trCall AM.seqC AM.loopI
set_option maxRecDepth 100000
set_option linter.unusedVariables false
set_option linter.unusedSimpArgs false
/-- The first fault of a list,and where. -/
def firstE {α : Type} (f : α → Int) : List α → Nat → Int × Int
 | [],_ => (0,0)
 | a :: l,n => if f a ≠ 0 then (f a,n) else firstE f l (n + 1)
theorem firstE_drop {α : Type} {f : α → Int} {l : List α} {i : Nat} {a : α} (h : l[i]? = some a) : firstE f (l.drop i) i = if f a ≠ 0 then (f a, (i : Int)) else firstE f (l.drop (i + 1)) (i + 1) := by
 obtain ⟨hi,rfl⟩ := List.getElem?_eq_some_iff.1 h
 rw [List.drop_eq_getElem_cons hi]; rfl
def tyF (nt : Nat) (t : Bool × List Int) : Int :=
 if 16 < t.2.length ∨ t.2.length < 1 ∨ (t.1 = true ∧ t.2.length ≠ 1) then 16 else if t.2.any (fun k => !kindF nt k) = true then 10 else 0
def typesF (p : PProg) : Int × Int :=
 if 32 < p.types.length ∨ 32 < p.globals.length ∨ 32 < p.funcs.length ∨ p.funcs.length < 1 then (16,0)
 else if (firstE (tyF p.types.length) p.types 0).1 ≠ 0 then firstE (tyF p.types.length) p.types 0
 else firstE (fun k => if kindF p.types.length k = true then 0 else 15) p.globals 0
set_option maxHeartbeats 4000000 in
theorem types {h : AHeap} {c : Nat} {p : PProg} {f : PFunc} {i : PIns} (C : CkR h c p f i) (ok : p.Ok) :
  CallP AP 32 [.ptr c 0 0] h fun r h' => HFrame h h' [] [] ∧ r = .tup [.int .i64 (typesF p).1, .int .i64 (typesF p).2] := by
 refine callP (rfl : Tr.get AP 32 = some A32) ?_
 generalize hQ : (fun (r : AVal) (h' : AHeap) => _) = Q
 have C0 := C
 obtain ⟨tv,gv,fv,sv,rv,cv,at_,lv,g,lt,s1,s2,s3,s4,s5,s6,hi,s7⟩ := C
 have l1 := s1.len
 have l2 := s2.len
 have l3 := s3.len
 simp -implicitDefEqProofs (disch := first|decide|assumption|omega|(simp -implicitDefEqProofs only [AM.RN];first|done|omega)|fail) only [AM.RGB,↓AM.R0,AM.R1,AM.R2,Nat.reduceAdd,Nat.reduceLeDiff,Nat.reduceEqDiff,Int.reduceToNat,Nat.reduceLT,↓reduceIte,Int.reduceEq,Int.reduceLT,Int.reduceLE,g,l1,l2,l3]
 refine AM.cI_bool (fun hb => ?_) (fun hb => ?_)
 ·simp -implicitDefEqProofs (disch := first|decide|assumption|omega|(simp -implicitDefEqProofs only [AM.RN];first|done|omega)|fail) only [↓AM.R0,AM.R1,AM.R2,Nat.reduceAdd,Nat.reduceLeDiff,Nat.reduceEqDiff,Int.reduceToNat,Nat.reduceLT,↓reduceIte,Int.reduceEq,Int.reduceLT,Int.reduceLE]
  simp only [Bool.or_eq_true,decide_eq_true_eq] at hb
  subst hQ
  exact ⟨HFrame.refl (by simp), by rw [typesF,if_pos (by omega)]⟩
 simp only [Bool.or_eq_false_iff,decide_eq_false_iff_not] at hb
 have hm : typesF p = if (firstE (tyF p.types.length) p.types 0).1 ≠ 0 then firstE (tyF p.types.length) p.types 0 else firstE (fun k => if kindF p.types.length k = true then 0 else 15) p.globals 0 := by
  rw [typesF,if_neg (by omega)]
 simp -implicitDefEqProofs (disch := first|decide|assumption|omega|(simp -implicitDefEqProofs only [AM.RN];first|done|omega)|fail) only [↓AM.R0,AM.R1,AM.R2,Nat.reduceAdd,Nat.reduceLeDiff,Nat.reduceEqDiff,Int.reduceToNat,Nat.reduceLT,↓reduceIte,Int.reduceEq,Int.reduceLT,Int.reduceLE,g,l1]
 refine AM.loopI_of (fun k e h' => ∃ x : Nat,k + x = p.types.length ∧ e.val 0 = .ptr c 0 0 ∧ e.val 48 = tv ∧ e.val 49 = .int .i64 p.types.length ∧ e.val 50 = .int .i64 x ∧ HFrame h h' [] [] ∧ firstE (tyF p.types.length) p.types 0 = firstE (tyF p.types.length) (p.types.drop x) x) p.types.length ?_ ?_
 ·refine ⟨0,by omega, ?_, ?_, ?_, ?_,HFrame.refl (by simp), by simp⟩ <;> simp -implicitDefEqProofs (disch := first|decide|assumption|omega|(simp -implicitDefEqProofs only [AM.RN];first|done|omega)|fail) only [↓AM.R0,AM.R1,AM.R2,Nat.reduceAdd,Nat.reduceLeDiff,Nat.reduceEqDiff,Int.reduceToNat,Nat.reduceLT,↓reduceIte,Int.reduceEq,Int.reduceLT,Int.reduceLE] <;> rfl
 ·rintro k e h' ⟨x,hk,e0,e48,e49,e50,fr,hF⟩
  simp -implicitDefEqProofs (disch := first|decide|assumption|omega|(simp -implicitDefEqProofs only [AM.RN];first|done|omega)|fail) only [↓AM.R0,AM.R1,AM.R2,Nat.reduceAdd,Nat.reduceLeDiff,Nat.reduceEqDiff,Int.reduceToNat,Nat.reduceLT,↓reduceIte,Int.reduceEq,Int.reduceLT,Int.reduceLE,e48,e49,e50]
  refine AM.cI_bool (fun hc => ?_) (fun hc => ?_)
  ·simp only [decide_eq_true_eq] at hc
   obtain ⟨t,ht⟩ : ∃ t,p.types[x]? = some t := ⟨_,List.getElem?_eq_getElem (by omega)⟩
   obtain ⟨j,g2,off,vs,ro,row,x1,x2,x3,x4,x5,x6,fl,rfl,xl⟩ := (s1.mono (h' := h') (R' := TypeR h) (fun _ _ q => q) fr.n (fun j hj => fr.get j hj (by simp))).ix ht .i64
   have cf := SlIn.cellv xl
   have lx := xl.len
   obtain ⟨p1,p2⟩ := two_of x5
   have hw : IntKind.i64.wrap ((x : Int) + 1) = ((x + 1 : Nat) : Int) := wrap64 (by omega) (by omega)
   rw [firstE_drop ht] at hF
   simp -implicitDefEqProofs (disch := first|decide|assumption|omega|(simp -implicitDefEqProofs only [AM.RN];first|done|omega)|fail) only [AM.RGB,↓AM.R0,AM.R1,AM.R2,Nat.reduceAdd,Nat.reduceLeDiff,Nat.reduceEqDiff,Int.reduceToNat,Nat.reduceLT,↓reduceIte,Int.reduceEq,Int.reduceLT,Int.reduceLE,e0,e48,e49,e50,x1,x2,x5,cf,lx]
   have fT := (fr.pushTmp (.cells 0 false [.bool false, .nils])).setTmp (i := h'.n) fr.n (.cells 0 false [.bool t.1,fl])
   have gT := AHeap.get_set_same (h'.push (.cells 0 false [.bool false, .nils])) h'.n (.cells 0 false [.bool t.1,fl])
   have nT : h'.n < ((h'.push (.cells 0 false [.bool false, .nils])).set h'.n (.cells 0 false [.bool t.1,fl])).n := by simp
   generalize ((h'.push (.cells 0 false [.bool false, .nils])).set h'.n (.cells 0 false [.bool t.1,fl])) = hA at *
   refine AM.cI_bool (fun hd => ?_) (fun hd => ?_)
   ·simp -implicitDefEqProofs (disch := first|decide|assumption|omega|(simp -implicitDefEqProofs only [AM.RN];first|done|omega)|fail) only [↓AM.R0,AM.R1,AM.R2,Nat.reduceAdd,Nat.reduceLeDiff,Nat.reduceEqDiff,Int.reduceToNat,Nat.reduceLT,↓reduceIte,Int.reduceEq,Int.reduceLT,Int.reduceLE,e50]
    have h16 : tyF p.types.length t = 16 := by
     rw [tyF,if_pos]
     simp only [Bool.or_eq_true,Bool.and_eq_true,decide_eq_true_eq,Bool.not_eq_true', decide_eq_false_iff_not] at hd
     rcases hd with (q | q) | ⟨q1,q2⟩
     ·exact .inl (by omega)
     ·exact .inr (.inl (by omega))
     ·exact .inr (.inr ⟨q1,by omega⟩)
    rw [h16] at hF
    subst hQ
    exact ⟨fT,by rw [hm,hF]; rfl⟩
   ·have hty : tyF p.types.length t = if t.2.any (fun k => !kindF p.types.length k) = true then 10 else 0 := by
     rw [tyF,if_neg]
     simp only [Bool.or_eq_false_iff,Bool.and_eq_false_iff,decide_eq_false_iff_not,Bool.not_eq_false', decide_eq_true_eq,Bool.not_eq_true'] at hd
     rintro (q | q | ⟨q1,q2⟩)
     ·omega
     ·omega
     ·rw [q1] at hd; simp at hd; omega
    have h16 : t.2.length ≤ 16 := by
     simp only [Bool.or_eq_false_iff,decide_eq_false_iff_not] at hd
     omega
    simp -implicitDefEqProofs (disch := first|decide|assumption|omega|(simp -implicitDefEqProofs only [AM.RN];first|done|omega)|fail) only [↓AM.R0,AM.R1,AM.R2,Nat.reduceAdd,Nat.reduceLeDiff,Nat.reduceEqDiff,Int.reduceToNat,Nat.reduceLT,↓reduceIte,Int.reduceEq,Int.reduceLT,Int.reduceLE,gT,lx]
    refine AM.loopI_of (fun k e h2 => ∃ y : Nat,k + y = t.2.length ∧ e.val 0 = .ptr c 0 0 ∧ e.val 4 = .int .i64 x ∧ e.val 48 = tv ∧ e.val 49 = .int .i64 p.types.length ∧ e.val 50 = .int .i64 x ∧ e.val 77 = fl ∧ e.val 78 = .int .i64 t.2.length ∧ e.val 79 = .int .i64 y ∧ h2 = hA ∧
     t.2.any (fun k => !kindF p.types.length k) = (t.2.drop y).any (fun k => !kindF p.types.length k)) t.2.length ?_ ?_
    ·refine ⟨0,by omega, ?_, ?_, ?_, ?_, ?_, ?_, ?_, ?_,rfl,by simp⟩ <;> simp -implicitDefEqProofs (disch := first|decide|assumption|omega|(simp -implicitDefEqProofs only [AM.RN];first|done|omega)|fail) only [↓AM.R0,AM.R1,AM.R2,Nat.reduceAdd,Nat.reduceLeDiff,Nat.reduceEqDiff,Int.reduceToNat,Nat.reduceLT,↓reduceIte,Int.reduceEq,Int.reduceLT,Int.reduceLE,e0,e48,e49,e50] <;> rfl
    ·clear e0 e48 e49 e50
     rintro k e h2 ⟨y,hky,e0,e4,e48,e49,e50,e77,e78,e79,hh,hA2⟩
     subst hh
     simp -implicitDefEqProofs (disch := first|decide|assumption|omega|(simp -implicitDefEqProofs only [AM.RN];first|done|omega)|fail) only [↓AM.R0,AM.R1,AM.R2,Nat.reduceAdd,Nat.reduceLeDiff,Nat.reduceEqDiff,Int.reduceToNat,Nat.reduceLT,↓reduceIte,Int.reduceEq,Int.reduceLT,Int.reduceLE,e77,e78,e79]
     refine AM.cI_bool (fun he => ?_) (fun he => ?_)
     ·simp only [decide_eq_true_eq] at he
      obtain ⟨a,ha⟩ : ∃ a,t.2[y]? = some a := ⟨_,List.getElem?_eq_getElem (by omega)⟩
      obtain ⟨j2,g3,off2,vs2,ro2,y1,y2,y3,y5⟩ := ((xl.keep fT).rd ha).ix1 (enc := fun n => .int .i64 n) ha .i64
      have hw2 : IntKind.i64.wrap ((y : Int) + 1) = ((y + 1 : Nat) : Int) := wrap64 (by omega) (by omega)
      rw [any_drop ha] at hA2
      simp -implicitDefEqProofs (disch := first|decide|assumption|omega|(simp -implicitDefEqProofs only [AM.RN];first|done|omega)|fail) only [↓AM.R0,AM.R1,AM.R2,Nat.reduceAdd,Nat.reduceLeDiff,Nat.reduceEqDiff,Int.reduceToNat,Nat.reduceLT,↓reduceIte,Int.reduceEq,Int.reduceLT,Int.reduceLE,e0,e77,e78,e79,y1,y2,y5]
      refine AM.callI_of (kind (C0.keep fT) a (ok.types t (List.mem_of_getElem? ht) a (List.mem_of_getElem? ha))) ?_
      rintro r h3 ⟨rfl,rfl⟩
      simp -implicitDefEqProofs (disch := first|decide|assumption|omega|(simp -implicitDefEqProofs only [AM.RN];first|done|omega)|fail) only [↓AM.R0,AM.R1,AM.R2,Nat.reduceAdd,Nat.reduceLeDiff,Nat.reduceEqDiff,Int.reduceToNat,Nat.reduceLT,↓reduceIte,Int.reduceEq,Int.reduceLT,Int.reduceLE]
      refine AM.cI_bool (fun hf => ?_) (fun hf => ?_)
      ·simp -implicitDefEqProofs (disch := first|decide|assumption|omega|(simp -implicitDefEqProofs only [AM.RN];first|done|omega)|fail) only [↓AM.R0,AM.R1,AM.R2,Nat.reduceAdd,Nat.reduceLeDiff,Nat.reduceEqDiff,Int.reduceToNat,Nat.reduceLT,↓reduceIte,Int.reduceEq,Int.reduceLT,Int.reduceLE,e4]
       rw [hf,Bool.true_or] at hA2
       rw [hty,if_pos hA2] at hF
       subst hQ
       exact ⟨fT,by rw [hm,hF]; rfl⟩
      ·rw [hf,Bool.false_or] at hA2
       simp -implicitDefEqProofs (disch := first|decide|assumption|omega|(simp -implicitDefEqProofs only [AM.RN];first|done|omega)|fail) only [↓AM.R0,AM.R1,AM.R2,Nat.reduceAdd,Nat.reduceLeDiff,Nat.reduceEqDiff,Int.reduceToNat,Nat.reduceLT,↓reduceIte,Int.reduceEq,Int.reduceLT,Int.reduceLE,e0,e4,e48,e49,e50,e77,e78,e79,hw2]
       exact ⟨t.2.length - (y + 1), by omega,y + 1,by omega,rfl,hA2⟩
     ·simp only [decide_eq_false_iff_not] at he
      rw [List.drop_of_length_le (by omega), List.any_nil] at hA2
      rw [hty,hA2,if_neg (by simp)] at hF
      simp -implicitDefEqProofs (disch := first|decide|assumption|omega|(simp -implicitDefEqProofs only [AM.RN];first|done|omega)|fail) only [↓AM.R0,AM.R1,AM.R2,Nat.reduceAdd,Nat.reduceLeDiff,Nat.reduceEqDiff,Int.reduceToNat,Nat.reduceLT,↓reduceIte,Int.reduceEq,Int.reduceLT,Int.reduceLE,e0,e48,e49,e50,hw]
      exact ⟨p.types.length - (x + 1), by omega,x + 1,by omega,rfl,fT,hF⟩
  ·simp only [decide_eq_false_iff_not] at hc
   rw [List.drop_of_length_le (by omega)] at hF
   have hm2 : typesF p = firstE (fun k => if kindF p.types.length k = true then 0 else 15) p.globals 0 := by rw [hm,hF]; rfl
   have g' := (fr.get c lt (by simp)).trans g
   have lt' : c < h'.n := by have := fr.n; omega
   simp -implicitDefEqProofs (disch := first|decide|assumption|omega|(simp -implicitDefEqProofs only [AM.RN];first|done|omega)|fail) only [↓AM.R0,AM.R1,AM.R2,Nat.reduceAdd,Nat.reduceLeDiff,Nat.reduceEqDiff,Int.reduceToNat,Nat.reduceLT,↓reduceIte,Int.reduceEq,Int.reduceLT,Int.reduceLE,e0,g', l2]
   refine AM.loopI_of (fun k e h2 => ∃ x : Nat,k + x = p.globals.length ∧ e.val 0 = .ptr c 0 0 ∧ e.val 94 = gv ∧ e.val 95 = .int .i64 p.globals.length ∧ e.val 96 = .int .i64 x ∧ h2 = h' ∧ firstE (fun k => if kindF p.types.length k = true then (0 : Int) else 15) p.globals 0 = firstE (fun k => if kindF p.types.length k = true then (0 : Int) else 15) (p.globals.drop x) x) p.globals.length ?_ ?_
   ·refine ⟨0,by omega, ?_, ?_, ?_, ?_,rfl,by simp⟩ <;> simp -implicitDefEqProofs (disch := first|decide|assumption|omega|(simp -implicitDefEqProofs only [AM.RN];first|done|omega)|fail) only [↓AM.R0,AM.R1,AM.R2,Nat.reduceAdd,Nat.reduceLeDiff,Nat.reduceEqDiff,Int.reduceToNat,Nat.reduceLT,↓reduceIte,Int.reduceEq,Int.reduceLT,Int.reduceLE,e0] <;> rfl
   ·clear e0 e48 e49 e50 hk hc
    rintro k e h2 ⟨x,hk,e0,e94,e95,e96,hh,hF⟩
    subst hh
    simp -implicitDefEqProofs (disch := first|decide|assumption|omega|(simp -implicitDefEqProofs only [AM.RN];first|done|omega)|fail) only [↓AM.R0,AM.R1,AM.R2,Nat.reduceAdd,Nat.reduceLeDiff,Nat.reduceEqDiff,Int.reduceToNat,Nat.reduceLT,↓reduceIte,Int.reduceEq,Int.reduceLT,Int.reduceLE,e94,e95,e96]
    refine AM.cI_bool (fun hc => ?_) (fun hc => ?_)
    ·simp only [decide_eq_true_eq] at hc
     obtain ⟨a,ha⟩ : ∃ a,p.globals[x]? = some a := ⟨_,List.getElem?_eq_getElem (by omega)⟩
     obtain ⟨j2,g3,off2,vs2,ro2,y1,y2,y3,y5⟩ := ((s2.keep fr).rd ha).ix1 (enc := fun n => .int .i64 n) ha .i64
     have hw2 : IntKind.i64.wrap ((x : Int) + 1) = ((x + 1 : Nat) : Int) := wrap64 (by omega) (by omega)
     rw [firstE_drop ha] at hF
     simp -implicitDefEqProofs (disch := first|decide|assumption|omega|(simp -implicitDefEqProofs only [AM.RN];first|done|omega)|fail) only [↓AM.R0,AM.R1,AM.R2,Nat.reduceAdd,Nat.reduceLeDiff,Nat.reduceEqDiff,Int.reduceToNat,Nat.reduceLT,↓reduceIte,Int.reduceEq,Int.reduceLT,Int.reduceLE,e0,e94,e95,e96,y1,y2,y5]
     refine AM.callI_of (kind (C0.keep fr) a (ok.globals a (List.mem_of_getElem? ha))) ?_
     rintro r h3 ⟨rfl,rfl⟩
     simp -implicitDefEqProofs (disch := first|decide|assumption|omega|(simp -implicitDefEqProofs only [AM.RN];first|done|omega)|fail) only [↓AM.R0,AM.R1,AM.R2,Nat.reduceAdd,Nat.reduceLeDiff,Nat.reduceEqDiff,Int.reduceToNat,Nat.reduceLT,↓reduceIte,Int.reduceEq,Int.reduceLT,Int.reduceLE]
     refine AM.cI_bool (fun hf => ?_) (fun hf => ?_)
     ·simp -implicitDefEqProofs (disch := first|decide|assumption|omega|(simp -implicitDefEqProofs only [AM.RN];first|done|omega)|fail) only [↓AM.R0,AM.R1,AM.R2,Nat.reduceAdd,Nat.reduceLeDiff,Nat.reduceEqDiff,Int.reduceToNat,Nat.reduceLT,↓reduceIte,Int.reduceEq,Int.reduceLT,Int.reduceLE]
      have hf' : kindF p.types.length a = false := by simpa using hf
      rw [hf'] at hF
      subst hQ
      exact ⟨fr,by rw [hm2,hF]; rfl⟩
     ·have hf' : kindF p.types.length a = true := by simpa using hf
      rw [hf'] at hF
      simp -implicitDefEqProofs (disch := first|decide|assumption|omega|(simp -implicitDefEqProofs only [AM.RN];first|done|omega)|fail) only [↓AM.R0,AM.R1,AM.R2,Nat.reduceAdd,Nat.reduceLeDiff,Nat.reduceEqDiff,Int.reduceToNat,Nat.reduceLT,↓reduceIte,Int.reduceEq,Int.reduceLT,Int.reduceLE,e0,e94,e95,e96,hw2]
      exact ⟨p.globals.length - (x + 1), by omega,x + 1,by omega,rfl,hF⟩
    ·simp only [decide_eq_false_iff_not] at hc
     rw [List.drop_of_length_le (by omega)] at hF
     simp -implicitDefEqProofs (disch := first|decide|assumption|omega|(simp -implicitDefEqProofs only [AM.RN];first|done|omega)|fail) only [↓AM.R0,AM.R1,AM.R2,Nat.reduceAdd,Nat.reduceLeDiff,Nat.reduceEqDiff,Int.reduceToNat,Nat.reduceLT,↓reduceIte,Int.reduceEq,Int.reduceLT,Int.reduceLE]
     subst hQ
     exact ⟨fr,by rw [hm2,hF]; rfl⟩
end Go.Proofs.Ytofcnjglnnoimaa.Vf
namespace Go.Proofs.Ytofcnjglnnoimaa.Vf
open Go Go.AM Go.Proofs.Ytofcnjglnnoimaa.AmGY
attribute [local irreducible] AM.wp AM.wpIs AM.wpTr AM.opI AM.gI AM.cI AM.trI AM.callI AM.fnI AM.trG AM.trOp AM.trCall AM.seqC AM.loopI
set_option maxRecDepth 100000
set_option linter.unusedVariables false
set_option linter.unusedSimpArgs false
def slotsBad (nt : Nat) (k : Int) : Bool := !decide (k = 2) && !kindF nt k
def lastF (l : List PIns) : Int := if orB ((l.getLast?.map (·.op)).getD 0) [36,24,52,39] = true then 0 else 7
def headF (nt : Nat) (f : PFunc) (first : Bool) : Int :=
 if 32 < f.slots.length ∨ 32 < f.results.length ∨ 256 < f.code.length ∨ f.params < 0 ∨ f.slots.length < f.params then 16
 else if first = true ∧ (f.params ≠ 0 ∨ f.results.length ≠ 0) then 13
 else if f.slots.any (slotsBad nt) = true then 10
 else if f.results.any (fun k => !kindF nt k) = true then 10
 else if f.code.length = 0 then 7 else lastF f.code
set_option maxHeartbeats 4000000 in
theorem head {h : AHeap} {c : Nat} {p : PProg} {f : PFunc} {i : PIns} (C : CkR h c p f i) (ok : f.Ok) (first : Bool) :
  CallP AP 33 [.ptr c 0 0, .bool first] h fun r h' => HFrame h h' [] [] ∧ r = .int .i64 (headF p.types.length f first) := by
 refine callP (rfl : Tr.get AP 33 = some A33) ?_
 generalize hQ : (fun (r : AVal) (h' : AHeap) => _) = Q
 have C0 := C
 obtain ⟨tv,gv,fv,sv,rv,cv,at_,lv,g,lt,s1,s2,s3,s4,s5,s6,hi,s7⟩ := C
 have l4 := s4.len
 have l5 := s5.len
 have l6 := s6.len
 have c4 := SlIn.cellv s4
 have c5 := SlIn.cellv s5
 have c6 := SlR.cellv s6
 have fT := ((HFrame.refl (h := h) (F := []) (by simp)).pushTmp (.cells 0 false [.int .i64 0, .nils, .nils, .nils])).setTmp (i := h.n) (Nat.le_refl _) (.cells 0 false [.int .i64 f.params,sv,rv,cv])
 have gB := AHeap.get_set_same (h.push (.cells 0 false [.int .i64 0, .nils, .nils, .nils])) h.n (.cells 0 false [.int .i64 f.params,sv,rv,cv])
 have hn0 : h.n < ((h.push (.cells 0 false [.int .i64 0, .nils, .nils, .nils])).set h.n (.cells 0 false [.int .i64 f.params,sv,rv,cv])).n := by simp
 simp -implicitDefEqProofs (disch := first|decide|assumption|omega|(simp -implicitDefEqProofs only [AM.RN];first|done|omega)|fail) only [AM.RGB,↓AM.R0,AM.R1,AM.R2,Nat.reduceAdd,Nat.reduceLeDiff,Nat.reduceEqDiff,Int.reduceToNat,Nat.reduceLT,↓reduceIte,Int.reduceEq,Int.reduceLT,Int.reduceLE,g,l4,l5,l6,c4,c5,c6]
 generalize ((h.push (.cells 0 false [.int .i64 0, .nils, .nils, .nils])).set h.n (.cells 0 false [.int .i64 f.params,sv,rv,cv])) = h1 at *
 have C1 := C0.keep fT
 refine AM.cI_bool (fun hb => ?_) (fun hb => ?_)
 ·simp -implicitDefEqProofs (disch := first|decide|assumption|omega|(simp -implicitDefEqProofs only [AM.RN];first|done|omega)|fail) only [↓AM.R0,AM.R1,AM.R2,Nat.reduceAdd,Nat.reduceLeDiff,Nat.reduceEqDiff,Int.reduceToNat,Nat.reduceLT,↓reduceIte,Int.reduceEq,Int.reduceLT,Int.reduceLE]
  simp only [Bool.or_eq_true,decide_eq_true_eq] at hb
  subst hQ
  exact ⟨fT,by rw [headF,if_pos (by omega)]⟩
 simp only [Bool.or_eq_false_iff,decide_eq_false_iff_not] at hb
 obtain ⟨X,hX⟩ : ∃ X,X = headF p.types.length f first := ⟨_,rfl⟩
 rw [← hX] at hQ
 rw [headF,if_neg (by omega)] at hX
 simp -implicitDefEqProofs (disch := first|decide|assumption|omega|(simp -implicitDefEqProofs only [AM.RN];first|done|omega)|fail) only [AM.RGB,↓AM.R0,AM.R1,AM.R2,Nat.reduceAdd,Nat.reduceLeDiff,Nat.reduceEqDiff,Int.reduceToNat,Nat.reduceLT,↓reduceIte,Int.reduceEq,Int.reduceLT,Int.reduceLE,gB,l5]
 refine AM.cI_bool (fun hc => ?_) (fun hc => ?_)
 ·simp -implicitDefEqProofs (disch := first|decide|assumption|omega|(simp -implicitDefEqProofs only [AM.RN];first|done|omega)|fail) only [↓AM.R0,AM.R1,AM.R2,Nat.reduceAdd,Nat.reduceLeDiff,Nat.reduceEqDiff,Int.reduceToNat,Nat.reduceLT,↓reduceIte,Int.reduceEq,Int.reduceLT,Int.reduceLE]
  rw [if_pos (by simpa using hc)] at hX
  subst hQ
  exact ⟨fT,by rw [hX]⟩
 rw [if_neg (by rintro ⟨rfl,q⟩; revert hc; rcases q with q | q <;> simp [q])] at hX
 simp -implicitDefEqProofs (disch := first|decide|assumption|omega|(simp -implicitDefEqProofs only [AM.RN];first|done|omega)|fail) only [↓AM.R0,AM.R1,AM.R2,Nat.reduceAdd,Nat.reduceLeDiff,Nat.reduceEqDiff,Int.reduceToNat,Nat.reduceLT,↓reduceIte,Int.reduceEq,Int.reduceLT,Int.reduceLE,gB,l4]
 refine AM.loopI_of (fun k e h' => ∃ y : Nat,k + y = f.slots.length ∧ e.val 0 = .ptr c 0 0 ∧ e.val 5 = .ptr h.n 0 0 ∧ e.val 56 = sv ∧ e.val 57 = .int .i64 f.slots.length ∧ e.val 58 = .int .i64 y ∧ h' = h1 ∧
  f.slots.any (slotsBad p.types.length) = (f.slots.drop y).any (slotsBad p.types.length)) f.slots.length ?_ ?_
 ·refine ⟨0,by omega, ?_, ?_, ?_, ?_, ?_,rfl,by simp⟩ <;> simp -implicitDefEqProofs (disch := first|decide|assumption|omega|(simp -implicitDefEqProofs only [AM.RN];first|done|omega)|fail) only [↓AM.R0,AM.R1,AM.R2,Nat.reduceAdd,Nat.reduceLeDiff,Nat.reduceEqDiff,Int.reduceToNat,Nat.reduceLT,↓reduceIte,Int.reduceEq,Int.reduceLT,Int.reduceLE] <;> rfl
 ·rintro k e h' ⟨y,hky,e0,e5,e56,e57,e58,hh,hA⟩
  subst hh
  simp -implicitDefEqProofs (disch := first|decide|assumption|omega|(simp -implicitDefEqProofs only [AM.RN];first|done|omega)|fail) only [↓AM.R0,AM.R1,AM.R2,Nat.reduceAdd,Nat.reduceLeDiff,Nat.reduceEqDiff,Int.reduceToNat,Nat.reduceLT,↓reduceIte,Int.reduceEq,Int.reduceLT,Int.reduceLE,e56,e57,e58]
  refine AM.cI_bool (fun he => ?_) (fun he => ?_)
  ·simp only [decide_eq_true_eq] at he
   obtain ⟨a,ha⟩ : ∃ a,f.slots[y]? = some a := ⟨_,List.getElem?_eq_getElem (by omega)⟩
   obtain ⟨j2,g3,off2,vs2,ro2,y1,y2,y3,y5⟩ := ((s4.keep fT).rd ha).ix1 (enc := fun n => .int .i64 n) ha .i64
   have hw2 : IntKind.i64.wrap ((y : Int) + 1) = ((y + 1 : Nat) : Int) := wrap64 (by omega) (by omega)
   rw [any_drop ha] at hA
   simp -implicitDefEqProofs (disch := first|decide|assumption|omega|(simp -implicitDefEqProofs only [AM.RN];first|done|omega)|fail) only [↓AM.R0,AM.R1,AM.R2,Nat.reduceAdd,Nat.reduceLeDiff,Nat.reduceEqDiff,Int.reduceToNat,Nat.reduceLT,↓reduceIte,Int.reduceEq,Int.reduceLT,Int.reduceLE,e0,e5,e56,e57,e58,y1,y2,y5]
   refine AM.gI_bool (fun hf => ?_) (fun hf => ?_)
   ·simp -implicitDefEqProofs (disch := first|decide|assumption|omega|(simp -implicitDefEqProofs only [AM.RN];first|done|omega)|fail) only [↓AM.R0,AM.R1,AM.R2,Nat.reduceAdd,Nat.reduceLeDiff,Nat.reduceEqDiff,Int.reduceToNat,Nat.reduceLT,↓reduceIte,Int.reduceEq,Int.reduceLT,Int.reduceLE,e0,hf]
    refine AM.callI_of (kind C1 a (ok.slots a (List.mem_of_getElem? ha))) ?_
    rintro r h3 ⟨rfl,rfl⟩
    simp -implicitDefEqProofs (disch := first|decide|assumption|omega|(simp -implicitDefEqProofs only [AM.RN];first|done|omega)|fail) only [↓AM.R0,AM.R1,AM.R2,Nat.reduceAdd,Nat.reduceLeDiff,Nat.reduceEqDiff,Int.reduceToNat,Nat.reduceLT,↓reduceIte,Int.reduceEq,Int.reduceLT,Int.reduceLE,hf]
    refine AM.cI_bool (fun hd => ?_) (fun hd => ?_)
    ·simp -implicitDefEqProofs (disch := first|decide|assumption|omega|(simp -implicitDefEqProofs only [AM.RN];first|done|omega)|fail) only [↓AM.R0,AM.R1,AM.R2,Nat.reduceAdd,Nat.reduceLeDiff,Nat.reduceEqDiff,Int.reduceToNat,Nat.reduceLT,↓reduceIte,Int.reduceEq,Int.reduceLT,Int.reduceLE]
     rw [slotsBad,hf,hd,Bool.true_and,Bool.true_or] at hA
     rw [if_pos hA] at hX
     subst hQ
     exact ⟨fT,by rw [hX]⟩
    ·rw [slotsBad,hf,hd,Bool.true_and,Bool.false_or] at hA
     simp -implicitDefEqProofs (disch := first|decide|assumption|omega|(simp -implicitDefEqProofs only [AM.RN];first|done|omega)|fail) only [↓AM.R0,AM.R1,AM.R2,Nat.reduceAdd,Nat.reduceLeDiff,Nat.reduceEqDiff,Int.reduceToNat,Nat.reduceLT,↓reduceIte,Int.reduceEq,Int.reduceLT,Int.reduceLE,e0,e5,e56,e57,e58,hw2]
     exact ⟨f.slots.length - (y + 1), by omega,y + 1,by omega,rfl,hA⟩
   ·rw [slotsBad,hf,Bool.false_and,Bool.false_or] at hA
    simp -implicitDefEqProofs (disch := first|decide|assumption|omega|(simp -implicitDefEqProofs only [AM.RN];first|done|omega)|fail) only [↓AM.R0,AM.R1,AM.R2,Nat.reduceAdd,Nat.reduceLeDiff,Nat.reduceEqDiff,Int.reduceToNat,Nat.reduceLT,↓reduceIte,Int.reduceEq,Int.reduceLT,Int.reduceLE,e0,e5,e56,e57,e58,hw2,hf]
    exact ⟨f.slots.length - (y + 1), by omega,y + 1,by omega,rfl,hA⟩
  ·simp only [decide_eq_false_iff_not] at he
   rw [List.drop_of_length_le (by omega), List.any_nil] at hA
   rw [if_neg (by simp [hA])] at hX
   simp -implicitDefEqProofs (disch := first|decide|assumption|omega|(simp -implicitDefEqProofs only [AM.RN];first|done|omega)|fail) only [↓AM.R0,AM.R1,AM.R2,Nat.reduceAdd,Nat.reduceLeDiff,Nat.reduceEqDiff,Int.reduceToNat,Nat.reduceLT,↓reduceIte,Int.reduceEq,Int.reduceLT,Int.reduceLE,e0,e5,gB,l5]
   refine AM.loopI_of (fun k e h2 => ∃ y : Nat,k + y = f.results.length ∧ e.val 0 = .ptr c 0 0 ∧ e.val 5 = .ptr h.n 0 0 ∧ e.val 72 = rv ∧ e.val 73 = .int .i64 f.results.length ∧ e.val 74 = .int .i64 y ∧ h2 = h' ∧
    f.results.any (fun k => !kindF p.types.length k) = (f.results.drop y).any (fun k => !kindF p.types.length k)) f.results.length ?_ ?_
   ·refine ⟨0,by omega, ?_, ?_, ?_, ?_, ?_,rfl,by simp⟩ <;> simp -implicitDefEqProofs (disch := first|decide|assumption|omega|(simp -implicitDefEqProofs only [AM.RN];first|done|omega)|fail) only [↓AM.R0,AM.R1,AM.R2,Nat.reduceAdd,Nat.reduceLeDiff,Nat.reduceEqDiff,Int.reduceToNat,Nat.reduceLT,↓reduceIte,Int.reduceEq,Int.reduceLT,Int.reduceLE,e0,e5] <;> rfl
   ·clear e0 e5 e56 e57 e58 he hky hA
    rintro k e h2 ⟨y,hky,e0,e5,e72,e73,e74,hh,hA⟩
    subst hh
    simp -implicitDefEqProofs (disch := first|decide|assumption|omega|(simp -implicitDefEqProofs only [AM.RN];first|done|omega)|fail) only [↓AM.R0,AM.R1,AM.R2,Nat.reduceAdd,Nat.reduceLeDiff,Nat.reduceEqDiff,Int.reduceToNat,Nat.reduceLT,↓reduceIte,Int.reduceEq,Int.reduceLT,Int.reduceLE,e72,e73,e74]
    refine AM.cI_bool (fun he => ?_) (fun he => ?_)
    ·simp only [decide_eq_true_eq] at he
     obtain ⟨a,ha⟩ : ∃ a,f.results[y]? = some a := ⟨_,List.getElem?_eq_getElem (by omega)⟩
     obtain ⟨j2,g3,off2,vs2,ro2,y1,y2,y3,y5⟩ := ((s5.keep fT).rd ha).ix1 (enc := fun n => .int .i64 n) ha .i64
     have hw2 : IntKind.i64.wrap ((y : Int) + 1) = ((y + 1 : Nat) : Int) := wrap64 (by omega) (by omega)
     rw [any_drop ha] at hA
     simp -implicitDefEqProofs (disch := first|decide|assumption|omega|(simp -implicitDefEqProofs only [AM.RN];first|done|omega)|fail) only [↓AM.R0,AM.R1,AM.R2,Nat.reduceAdd,Nat.reduceLeDiff,Nat.reduceEqDiff,Int.reduceToNat,Nat.reduceLT,↓reduceIte,Int.reduceEq,Int.reduceLT,Int.reduceLE,e0,e5,e72,e73,e74,y1,y2,y5]
     refine AM.callI_of (kind C1 a (ok.results a (List.mem_of_getElem? ha))) ?_
     rintro r h3 ⟨rfl,rfl⟩
     simp -implicitDefEqProofs (disch := first|decide|assumption|omega|(simp -implicitDefEqProofs only [AM.RN];first|done|omega)|fail) only [↓AM.R0,AM.R1,AM.R2,Nat.reduceAdd,Nat.reduceLeDiff,Nat.reduceEqDiff,Int.reduceToNat,Nat.reduceLT,↓reduceIte,Int.reduceEq,Int.reduceLT,Int.reduceLE]
     refine AM.cI_bool (fun hd => ?_) (fun hd => ?_)
     ·simp -implicitDefEqProofs (disch := first|decide|assumption|omega|(simp -implicitDefEqProofs only [AM.RN];first|done|omega)|fail) only [↓AM.R0,AM.R1,AM.R2,Nat.reduceAdd,Nat.reduceLeDiff,Nat.reduceEqDiff,Int.reduceToNat,Nat.reduceLT,↓reduceIte,Int.reduceEq,Int.reduceLT,Int.reduceLE]
      rw [hd,Bool.true_or] at hA
      rw [if_pos hA] at hX
      subst hQ
      exact ⟨fT,by rw [hX]⟩
     ·rw [hd,Bool.false_or] at hA
      simp -implicitDefEqProofs (disch := first|decide|assumption|omega|(simp -implicitDefEqProofs only [AM.RN];first|done|omega)|fail) only [↓AM.R0,AM.R1,AM.R2,Nat.reduceAdd,Nat.reduceLeDiff,Nat.reduceEqDiff,Int.reduceToNat,Nat.reduceLT,↓reduceIte,Int.reduceEq,Int.reduceLT,Int.reduceLE,e0,e5,e72,e73,e74,hw2]
      exact ⟨f.results.length - (y + 1), by omega,y + 1,by omega,rfl,hA⟩
    ·simp only [decide_eq_false_iff_not] at he
     rw [List.drop_of_length_le (by omega), List.any_nil] at hA
     rw [if_neg (by simp [hA])] at hX
     simp -implicitDefEqProofs (disch := first|decide|assumption|omega|(simp -implicitDefEqProofs only [AM.RN];first|done|omega)|fail) only [↓AM.R0,AM.R1,AM.R2,Nat.reduceAdd,Nat.reduceLeDiff,Nat.reduceEqDiff,Int.reduceToNat,Nat.reduceLT,↓reduceIte,Int.reduceEq,Int.reduceLT,Int.reduceLE,e0,e5,gB,l6]
     refine AM.cI_bool (fun hd => ?_) (fun hd => ?_)
     ·simp only [decide_eq_true_eq] at hd
      simp -implicitDefEqProofs (disch := first|decide|assumption|omega|(simp -implicitDefEqProofs only [AM.RN];first|done|omega)|fail) only [↓AM.R0,AM.R1,AM.R2,Nat.reduceAdd,Nat.reduceLeDiff,Nat.reduceEqDiff,Int.reduceToNat,Nat.reduceLT,↓reduceIte,Int.reduceEq,Int.reduceLT,Int.reduceLE]
      rw [if_pos (by omega)] at hX
      subst hQ
      exact ⟨fT,by rw [hX]⟩
     ·simp only [decide_eq_false_iff_not] at hd
      rw [if_neg (by omega)] at hX
      obtain ⟨z,hz⟩ : ∃ z,f.code[f.code.length - 1]? = some z := ⟨_,List.getElem?_eq_getElem (by omega)⟩
      have hz2 : f.code.getLast? = some z := by rw [List.getLast?_eq_getElem?]; exact hz
      obtain ⟨j,g2,off,vs,ro,row,x1,x2,x3,x4,x5,x6,q7,lz,rfl,xl⟩ := (s6.mono (h' := h2) (R' := InsR h) (fun _ _ q => q) fT.n (fun j hj => fT.get j hj (by simp))).ix hz .i64
      have hw : IntKind.i64.wrap ((f.code.length : Int) - 1) = ((f.code.length - 1 : Nat) : Int) := (wrap64 (by omega) (by omega)).trans (by omega)
      have p0 : vs[off]? = some (.int .i64 z.op) := by
       have : ((vs.drop off).take 6)[0]? = some (.int .i64 z.op) := by rw [x5]; rfl
       rw [List.getElem?_take,if_pos (by omega), List.getElem?_drop] at this
       exact this
      rw [lastF,hz2] at hX
      simp only [Option.map_some,Option.getD_some] at hX
      simp -implicitDefEqProofs (disch := first|decide|assumption|omega|(simp -implicitDefEqProofs only [AM.RN];first|done|omega)|fail) only [↓AM.R0,AM.R1,AM.R2,Nat.reduceAdd,Nat.reduceLeDiff,Nat.reduceEqDiff,Int.reduceToNat,Nat.reduceLT,↓reduceIte,Int.reduceEq,Int.reduceLT,Int.reduceLE,e0,e5,gB,l6,hw,x1,x2,p0]
      refine cI_or (t := 96) (s := 95) (x := z.op) (by decide) [(98,24), (99,52), (100,39)] (by simp -implicitDefEqProofs (disch := first|decide|assumption|omega|(simp -implicitDefEqProofs only [AM.RN];first|done|omega)|fail) only [↓AM.R0,AM.R1,AM.R2,Nat.reduceAdd,Nat.reduceLeDiff,Nat.reduceEqDiff,Int.reduceToNat,Nat.reduceLT,↓reduceIte,Int.reduceEq,Int.reduceLT,Int.reduceLE,e0]) (by simp -implicitDefEqProofs (disch := first|decide|assumption|omega|(simp -implicitDefEqProofs only [AM.RN];first|done|omega)|fail) only [↓AM.R0,AM.R1,AM.R2,Nat.reduceAdd,Nat.reduceLeDiff,Nat.reduceEqDiff,Int.reduceToNat,Nat.reduceLT,↓reduceIte,Int.reduceEq,Int.reduceLT,Int.reduceLE,e0]) (by decide) ?_
      intro e' ht hk
      have e0' : Env.val e' 0 = .ptr c 0 0 := (hk 0 (by decide) (by decide)).trans (by simp -implicitDefEqProofs (disch := first|decide|assumption|omega|(simp -implicitDefEqProofs only [AM.RN];first|done|omega)|fail) only [↓AM.R0,AM.R1,AM.R2,Nat.reduceAdd,Nat.reduceLeDiff,Nat.reduceEqDiff,Int.reduceToNat,Nat.reduceLT,↓reduceIte,Int.reduceEq,Int.reduceLT,Int.reduceLE,e0])
      clear hk
      try clear e0
      have e0 := e0'
      clear e0'
      simp -implicitDefEqProofs (disch := first|decide|assumption|omega|(simp -implicitDefEqProofs only [AM.RN];first|done|omega)|fail) only [↓AM.R0,AM.R1,AM.R2,Nat.reduceAdd,Nat.reduceLeDiff,Nat.reduceEqDiff,Int.reduceToNat,Nat.reduceLT,↓reduceIte,Int.reduceEq,Int.reduceLT,Int.reduceLE,ht]
      refine AM.cI_bool (fun hf => ?_) (fun hf => ?_)
      ·have m : orB z.op [36,24,52,39] = true := hf
       simp -implicitDefEqProofs (disch := first|decide|assumption|omega|(simp -implicitDefEqProofs only [AM.RN];first|done|omega)|fail) only [↓AM.R0,AM.R1,AM.R2,Nat.reduceAdd,Nat.reduceLeDiff,Nat.reduceEqDiff,Int.reduceToNat,Nat.reduceLT,↓reduceIte,Int.reduceEq,Int.reduceLT,Int.reduceLE]
       rw [if_pos m] at hX
       subst hQ
       exact ⟨fT,by rw [hX]⟩
      ·have m : orB z.op [36,24,52,39] = false := hf
       simp -implicitDefEqProofs (disch := first|decide|assumption|omega|(simp -implicitDefEqProofs only [AM.RN];first|done|omega)|fail) only [↓AM.R0,AM.R1,AM.R2,Nat.reduceAdd,Nat.reduceLeDiff,Nat.reduceEqDiff,Int.reduceToNat,Nat.reduceLT,↓reduceIte,Int.reduceEq,Int.reduceLT,Int.reduceLE]
       rw [if_neg (by simp [m])] at hX
       subst hQ
       exact ⟨fT,by rw [hX]⟩
end Go.Proofs.Ytofcnjglnnoimaa.Vf
namespace Go.Proofs.Ytofcnjglnnoimaa.Vf
open Go Go.AM Go.Proofs.Ytofcnjglnnoimaa.AmGY
attribute [local irreducible] AM.wp AM.wpIs AM.wpTr AM.opI AM.gI AM.cI AM.trI AM.callI AM.fnI AM.trG AM.trOp AM.trCall AM.seqC AM.loopI
set_option maxRecDepth 100000
set_option linter.unusedVariables false
set_option linter.unusedSimpArgs false
def headsF (nt : Nat) : List PFunc → Nat → Int × Int
 | [],_ => (0,0)
 | g :: l,n => if headF nt g (decide (n = 0)) ≠ 0 then (headF nt g (decide (n = 0)), n) else headsF nt l (n + 1)
def codesF (p : PProg) : List PFunc → Nat → Int × Int × Int
 | [],_ => (0,0,0)
 | g :: l,n => if (firstE (insF p g) g.code 0).1 ≠ 0 then ((firstE (insF p g) g.code 0).1,n, (firstE (insF p g) g.code 0).2) else codesF p l (n + 1)
def checkF (p : PProg) : Int × Int × Int :=
 if (typesF p).1 ≠ 0 then ((typesF p).1, -1, (typesF p).2)
 else if (headsF p.types.length p.funcs 0).1 ≠ 0 then ((headsF p.types.length p.funcs 0).1, (headsF p.types.length p.funcs 0).2,0)
 else codesF p p.funcs 0
theorem headsF_drop {nt : Nat} {l : List PFunc} {i : Nat} {a : PFunc} (h : l[i]? = some a) : headsF nt (l.drop i) i = if headF nt a (decide (i = 0)) ≠ 0 then (headF nt a (decide (i = 0)), (i : Int)) else headsF nt (l.drop (i + 1)) (i + 1) := by
 obtain ⟨hi,rfl⟩ := List.getElem?_eq_some_iff.1 h
 rw [List.drop_eq_getElem_cons hi]; rfl
theorem codesF_drop {p : PProg} {l : List PFunc} {i : Nat} {a : PFunc} (h : l[i]? = some a) : codesF p (l.drop i) i = if (firstE (insF p a) a.code 0).1 ≠ 0 then ((firstE (insF p a) a.code 0).1, (i : Int), (firstE (insF p a) a.code 0).2) else codesF p (l.drop (i + 1)) (i + 1) := by
 obtain ⟨hi,rfl⟩ := List.getElem?_eq_some_iff.1 h
 rw [List.drop_eq_getElem_cons hi]; rfl
theorem firstE_ok {α : Type} {f : α → Int} : ∀ {l : List α} {n : Nat}, (firstE f l n).1 = 0 → ∀ a,a ∈ l → f a = 0
 | [],_,_,a,h => (nomatch h)
 | b :: l,n,e,a,h => by
  unfold firstE at e
  by_cases hb : f b = 0
  ·rw [if_neg (by simp [hb])] at e
   rcases List.mem_cons.1 h with rfl | h
   ·exact hb
   ·exact firstE_ok e a h
  ·rw [if_pos hb] at e; exact absurd e hb
theorem headsF_ok {nt : Nat} : ∀ {l : List PFunc} {n : Nat}, (headsF nt l n).1 = 0 → ∀ a,a ∈ l → ∃ b,headF nt a b = 0
 | [],_,_,a,h => (nomatch h)
 | b :: l,n,e,a,h => by
  unfold headsF at e
  by_cases hb : headF nt b (decide (n = 0)) = 0
  ·rw [if_neg (by simp [hb])] at e
   rcases List.mem_cons.1 h with rfl | h
   ·exact ⟨_,hb⟩
   ·exact headsF_ok e a h
  ·rw [if_pos hb] at e; exact absurd e hb
theorem typesF_ok {p : PProg} (h : (typesF p).1 = 0) : p.types.length ≤ 32 ∧ p.globals.length ≤ 32 ∧ p.funcs.length ≤ 32 ∧ 1 ≤ p.funcs.length ∧ Ht p ∧ (∀ t,t ∈ p.types → t.2.length ≤ 16) := by
 unfold typesF at h
 split at h
 ·cases h
 ·rename_i hc
  split at h
  ·rename_i hd; exact absurd h hd
  ·rename_i hd
   have hd' : (firstE (tyF p.types.length) p.types 0).1 = 0 := by simpa using hd
   have ht : ∀ t,t ∈ p.types → 1 ≤ t.2.length ∧ t.2.length ≤ 16 := fun t ht => by
    have := firstE_ok hd' t ht
    unfold tyF at this
    split at this
    ·cases this
    ·omega
   exact ⟨by omega,by omega,by omega,by omega,fun t h => by have := (ht t h).1; intro e; rw [e] at this; simp at this,fun t h => (ht t h).2⟩
theorem headF_ok {nt : Nat} {f : PFunc} {b : Bool} (h : headF nt f b = 0) : f.slots.length ≤ 32 ∧ f.results.length ≤ 32 ∧ f.code.length ≤ 256 ∧ 0 ≤ f.params ∧ f.params ≤ f.slots.length ∧ (∀ k,k ∈ f.slots → k = 2 ∨ kindF nt k = true) ∧ f.code.length ≠ 0 := by
 unfold headF at h
 split at h
 ·cases h
 ·rename_i h1
  split at h
  ·cases h
  ·split at h
   ·cases h
   ·rename_i h3
    split at h
    ·cases h
    ·split at h
     ·cases h
     ·rename_i h5
      refine ⟨by omega,by omega,by omega,by omega,by omega,fun k hk => ?_,h5⟩
      have := List.any_eq_false.1 (by simpa using h3 : f.slots.any (slotsBad nt) = false) k hk
      unfold slotsBad at this
      simp only [Bool.and_eq_true,Bool.not_eq_true', decide_eq_false_iff_not,not_and,Bool.not_eq_false] at this
      by_cases hq : k = 2
      ·exact .inl hq
      ·exact .inr (this hq)
theorem mkCk {h h' : AHeap} {c : Nat} {p : PProg} {f : PFunc} {i : PIns} {tv gv fv sv rv cv : AVal} {at_ : Int} {lv : AVal} (fr : HFrame h h' [] []) (g : h'.get c = .cells 0 false [tv,gv,fv, .int .i64 f.params,sv,rv,cv, .int .i64 at_, .int .i64 i.op, .int .i64 i.a, .int .i64 i.b, .int .i64 i.c, .int .u64 i.imm,lv]) (lt : c < h'.n)
  (RT : SlR h 2 (TypeR h) tv p.types) (RG : SlIn h 1 encK gv p.globals) (RF : SlR h 4 (FuncR h) fv p.funcs) (F1 : SlIn h 1 encK sv f.slots) (F2 : SlIn h 1 encK rv f.results) (F3 : SlR h 6 (InsR h) cv f.code) (hi : i.imm ≤ 18446744073709551615) (I1 : SlIn h 1 encK lv i.list) : CkR h' c p f i := by
 have hn := fr.n
 have k : ∀ j,j < h.n → h'.get j = h.get j := fun j hj => fr.get j hj (by simp)
 exact ⟨tv,gv,fv,sv,rv,cv,at_,lv,g,lt,RT.mono (fun _ _ q => TypeR.mono hn k q) hn k,RG.mono hn k,RF.mono (fun _ _ q => FuncR.mono hn k q) hn k,F1.mono hn k,F2.mono hn k,F3.mono (fun _ _ q => InsR.mono hn k q) hn k,hi,I1.mono hn k⟩
set_option maxHeartbeats 4000000 in
theorem check {h : AHeap} {p : PProg} {row : List AVal} (R : ProgR h p row) (ok : p.Ok) :
  CallP AP 16 [.agg row] h fun r h' => HFrame h h' [] [] ∧ r = .agg [.int .i64 (checkF p).1, .int .i64 (checkF p).2.1, .int .i64 (checkF p).2.2] := by
 obtain ⟨tv,gv,fv,rfl,RT,RG,RF⟩ := R
 refine callP (rfl : Tr.get AP 16 = some A16) ?_
 generalize hQ : (fun (r : AVal) (h' : AHeap) => _) = Q
 have c1 := SlR.cellv RT
 have c2 := SlIn.cellv RG
 have c3 := SlR.cellv RF
 have l3 := RF.len
 simp -implicitDefEqProofs (disch := first|decide|assumption|omega|(simp -implicitDefEqProofs only [AM.RN];first|done|omega)|fail) only [↓AM.R0,AM.R1,AM.R2,Nat.reduceAdd,Nat.reduceLeDiff,Nat.reduceEqDiff,Int.reduceToNat,Nat.reduceLT,↓reduceIte,Int.reduceEq,Int.reduceLT,Int.reduceLE,c1,c2,c3]
 have f0 := (((HFrame.refl (h := h) (F := []) (by simp)).pushTmp (.cells 0 false [tv,gv,fv])).pushTmp (.cells 0 false [.int .i64 0, .int .i64 0, .int .i64 0])).pushTmp (.cells 0 false [tv,gv,fv, .int .i64 0, .nils, .nils, .nils, .int .i64 0, .int .i64 0, .int .i64 0, .int .i64 0, .int .i64 0, .int .u64 0, .nils])
 obtain ⟨hA,hhA⟩ : ∃ hA,hA = ((h.push (.cells 0 false [tv,gv,fv])).push (.cells 0 false [.int .i64 0, .int .i64 0, .int .i64 0])).push (.cells 0 false [tv,gv,fv, .int .i64 0, .nils, .nils, .nils, .int .i64 0, .int .i64 0, .int .i64 0, .int .i64 0, .int .i64 0, .int .u64 0, .nils]) := ⟨_,rfl⟩
 have nA : hA.n = h.n + 3 := by rw [hhA]; rfl
 have gP : hA.get h.n = .cells 0 false [tv,gv,fv] := by rw [hhA,AHeap.get_push_ne _ _ (by simp; omega), AHeap.get_push_ne _ _ (by simp)]; exact AHeap.get_push_same _ _
 have gR : hA.get (h.n + 1) = .cells 0 false [.int .i64 0, .int .i64 0, .int .i64 0] := by rw [hhA,AHeap.get_push_ne _ _ (by simp)]; exact AHeap.get_push_same (h.push (.cells 0 false [tv,gv,fv])) _
 have gC : hA.get (h.n + 2) = .cells 0 false [tv,gv,fv, .int .i64 0, .nils, .nils, .nils, .int .i64 0, .int .i64 0, .int .i64 0, .int .i64 0, .int .i64 0, .int .u64 0, .nils] := by rw [hhA]; exact AHeap.get_push_same ((h.push (.cells 0 false [tv,gv,fv])).push (.cells 0 false [.int .i64 0, .int .i64 0, .int .i64 0])) _
 have hAe := hhA
 rw [← hhA] at f0 ⊢
 clear hhA hAe
 have C0 : CkR hA (h.n + 2) p ⟨0, [], [], []⟩ ⟨0,0,0,0,0, []⟩ := mkCk f0 gC (by omega) RT RG RF (.inl (.inl ⟨rfl,rfl⟩)) (.inl (.inl ⟨rfl,rfl⟩)) (.inl ⟨rfl,rfl⟩) (by simp) (.inl (.inl ⟨rfl,rfl⟩))
 obtain ⟨X,hX⟩ : ∃ X,X = checkF p := ⟨_,rfl⟩
 rw [← hX] at hQ
 rw [checkF] at hX
 refine AM.callI_of (types C0 ok) ?_
 rintro r h1 ⟨f1,rfl⟩
 have gP1 := (f1.get h.n (by omega) (by simp)).trans gP
 have gR1 := (f1.get (h.n + 1) (by omega) (by simp)).trans gR
 have gC1 := (f1.get (h.n + 2) (by omega) (by simp)).trans gC
 have n1 : h.n + 3 ≤ h1.n := by have := f1.n; omega
 have f01 := f0.trans f1
 simp -implicitDefEqProofs (disch := first|decide|assumption|omega|(simp -implicitDefEqProofs only [AM.RN];first|done|omega)|fail) only [↓AM.R0,AM.R1,AM.R2,Nat.reduceAdd,Nat.reduceLeDiff,Nat.reduceEqDiff,Int.reduceToNat,Nat.reduceLT,↓reduceIte,Int.reduceEq,Int.reduceLT,Int.reduceLE]
 refine AM.cI_bool (fun hb => ?_) (fun hb => ?_)
 ·have hb' : (typesF p).1 ≠ 0 := by simpa using hb
  rw [if_pos hb'] at hX
  simp -implicitDefEqProofs (disch := first|decide|assumption|omega|(simp -implicitDefEqProofs only [AM.RN];first|done|omega)|fail) only [↓AM.R0,AM.R1,AM.R2,Nat.reduceAdd,Nat.reduceLeDiff,Nat.reduceEqDiff,Int.reduceToNat,Nat.reduceLT,↓reduceIte,Int.reduceEq,Int.reduceLT,Int.reduceLE,gR1]
  subst hQ
  exact ⟨f01.setTmp (by omega) _,by rw [hX]⟩
 have hb' : ¬ (typesF p).1 ≠ 0 := by simpa using hb
 rw [if_neg hb'] at hX
 obtain ⟨t1,t2,t3,t4,t5,t6⟩ := typesF_ok (by simpa using hb')
 simp -implicitDefEqProofs (disch := first|decide|assumption|omega|(simp -implicitDefEqProofs only [AM.RN];first|done|omega)|fail) only [↓AM.R0,AM.R1,AM.R2,Nat.reduceAdd,Nat.reduceLeDiff,Nat.reduceEqDiff,Int.reduceToNat,Nat.reduceLT,↓reduceIte,Int.reduceEq,Int.reduceLT,Int.reduceLE,gP1,l3]
 refine AM.loopI_of (fun k e h' => ∃ (x : Nat) (f : PFunc) (sv rv cv : AVal), k + x = p.funcs.length ∧ e.val 1 = .ptr h.n 0 0 ∧ e.val 2 = .ptr (h.n + 1) 0 0 ∧ e.val 3 = .ptr (h.n + 2) 0 0 ∧ e.val 28 = fv ∧ e.val 29 = .int .i64 p.funcs.length ∧ e.val 30 = .int .i64 x ∧ HFrame h h' [] [] ∧ h.n + 3 ≤ h'.n ∧
  h'.get h.n = .cells 0 false [tv,gv,fv] ∧ h'.get (h.n + 1) = .cells 0 false [.int .i64 0, .int .i64 0, .int .i64 0] ∧ h'.get (h.n + 2) = .cells 0 false [tv,gv,fv, .int .i64 f.params,sv,rv,cv, .int .i64 0, .int .i64 0, .int .i64 0, .int .i64 0, .int .i64 0, .int .u64 0, .nils] ∧
  headsF p.types.length p.funcs 0 = headsF p.types.length (p.funcs.drop x) x) p.funcs.length ?_ ?_
 ·refine ⟨0, ⟨0, [], [], []⟩, .nils, .nils, .nils,by omega, ?_, ?_, ?_, ?_, ?_, ?_,f01,n1,gP1,gR1,gC1,by simp⟩ <;> simp -implicitDefEqProofs (disch := first|decide|assumption|omega|(simp -implicitDefEqProofs only [AM.RN];first|done|omega)|fail) only [↓AM.R0,AM.R1,AM.R2,Nat.reduceAdd,Nat.reduceLeDiff,Nat.reduceEqDiff,Int.reduceToNat,Nat.reduceLT,↓reduceIte,Int.reduceEq,Int.reduceLT,Int.reduceLE] <;> rfl
 ·rintro k e h' ⟨x,fx,sx,rx,cx,hk,e1,e2,e3,e28,e29,e30,fr,hn,gP,gR,gC,hF⟩
  simp -implicitDefEqProofs (disch := first|decide|assumption|omega|(simp -implicitDefEqProofs only [AM.RN];first|done|omega)|fail) only [↓AM.R0,AM.R1,AM.R2,Nat.reduceAdd,Nat.reduceLeDiff,Nat.reduceEqDiff,Int.reduceToNat,Nat.reduceLT,↓reduceIte,Int.reduceEq,Int.reduceLT,Int.reduceLE,e28,e29,e30]
  refine AM.cI_bool (fun hc => ?_) (fun hc => ?_)
  ·simp only [decide_eq_true_eq] at hc
   obtain ⟨f,hf⟩ : ∃ f,p.funcs[x]? = some f := ⟨_,List.getElem?_eq_getElem (by omega)⟩
   obtain ⟨j,g2,off,vs,ro,row,x1,x2,x3,x4,x5,x6,sv,rv,cv,rfl,ys,yr,yc⟩ := (RF.mono (h' := h') (R' := FuncR h) (fun _ _ q => q) fr.n (fun j hj => fr.get j hj (by simp))).ix hf .i64
   have k1 := SlIn.cellv ys
   have k2 := SlIn.cellv yr
   have k3 := SlR.cellv yc
   have hw : IntKind.i64.wrap ((x : Int) + 1) = ((x + 1 : Nat) : Int) := wrap64 (by omega) (by omega)
   rw [headsF_drop hf] at hF
   simp -implicitDefEqProofs (disch := first|decide|assumption|omega|(simp -implicitDefEqProofs only [AM.RN];first|done|omega)|fail) only [↓AM.R0,AM.R1,AM.R2,Nat.reduceAdd,Nat.reduceLeDiff,Nat.reduceEqDiff,Int.reduceToNat,Nat.reduceLT,↓reduceIte,Int.reduceEq,Int.reduceLT,Int.reduceLE,e1,e2,e3,e28,e29,e30,x1,x2,x5,k1,k2,k3,gC]
   have f2 := ((fr.pushTmp (.cells 0 false [.int .i64 0, .nils, .nils, .nils])).setTmp (i := h'.n) fr.n (.cells 0 false [.int .i64 f.params,sv,rv,cv])).setTmp (i := h.n + 2) (by omega) (.cells 0 false [tv,gv,fv, .int .i64 f.params,sv,rv,cv, .int .i64 0, .int .i64 0, .int .i64 0, .int .i64 0, .int .i64 0, .int .u64 0, .nils])
   obtain ⟨hB,hhB⟩ : ∃ hB,hB = ((h'.push (.cells 0 false [.int .i64 0, .nils, .nils, .nils])).set h'.n (.cells 0 false [.int .i64 f.params,sv,rv,cv])).set (h.n + 2) (.cells 0 false [tv,gv,fv, .int .i64 f.params,sv,rv,cv, .int .i64 0, .int .i64 0, .int .i64 0, .int .i64 0, .int .i64 0, .int .u64 0, .nils]) := ⟨_,rfl⟩
   have nB : hB.n = h'.n + 1 := by rw [hhB]; rfl
   have gP2 : hB.get h.n = .cells 0 false [tv,gv,fv] := by rw [hhB,AHeap.get_set_ne _ _ (by omega), AHeap.get_set_ne _ _ (by omega), AHeap.get_push_ne _ _ (by omega)]; exact gP
   have gR2 : hB.get (h.n + 1) = .cells 0 false [.int .i64 0, .int .i64 0, .int .i64 0] := by rw [hhB,AHeap.get_set_ne _ _ (by omega), AHeap.get_set_ne _ _ (by omega), AHeap.get_push_ne _ _ (by omega)]; exact gR
   have gC2 : hB.get (h.n + 2) = .cells 0 false [tv,gv,fv, .int .i64 f.params,sv,rv,cv, .int .i64 0, .int .i64 0, .int .i64 0, .int .i64 0, .int .i64 0, .int .u64 0, .nils] := by rw [hhB]; exact AHeap.get_set_same _ _ _
   rw [← hhB] at f2 ⊢
   clear hhB
   have C2 : CkR hB (h.n + 2) p f ⟨0,0,0,0,0, []⟩ := mkCk f2 gC2 (by omega) RT RG RF ys yr yc (by simp) (.inl (.inl ⟨rfl,rfl⟩))
   have hdz : decide ((x : Int) = 0) = decide (x = 0) := decide_eq_decide.2 (by omega)
   rw [hdz]
   refine AM.callI_of (head C2 (ok.funcs f (List.mem_of_getElem? hf)) (decide (x = 0))) ?_
   rintro r h3 ⟨f3,rfl⟩
   have gP3 := (f3.get h.n (by omega) (by simp)).trans gP2
   have gR3 := (f3.get (h.n + 1) (by omega) (by simp)).trans gR2
   have gC3 := (f3.get (h.n + 2) (by omega) (by simp)).trans gC2
   have n3 : h.n + 3 ≤ h3.n := by have := f3.n; omega
   have f23 := f2.trans f3
   simp -implicitDefEqProofs (disch := first|decide|assumption|omega|(simp -implicitDefEqProofs only [AM.RN];first|done|omega)|fail) only [↓AM.R0,AM.R1,AM.R2,Nat.reduceAdd,Nat.reduceLeDiff,Nat.reduceEqDiff,Int.reduceToNat,Nat.reduceLT,↓reduceIte,Int.reduceEq,Int.reduceLT,Int.reduceLE]
   refine AM.cI_bool (fun hd => ?_) (fun hd => ?_)
   ·have hd' : headF p.types.length f (decide (x = 0)) ≠ 0 := by simpa using hd
    rw [if_pos hd'] at hF
    rw [hF,if_pos hd'] at hX
    simp -implicitDefEqProofs (disch := first|decide|assumption|omega|(simp -implicitDefEqProofs only [AM.RN];first|done|omega)|fail) only [↓AM.R0,AM.R1,AM.R2,Nat.reduceAdd,Nat.reduceLeDiff,Nat.reduceEqDiff,Int.reduceToNat,Nat.reduceLT,↓reduceIte,Int.reduceEq,Int.reduceLT,Int.reduceLE,e2,gR3]
    subst hQ
    exact ⟨f23.setTmp (by omega) _,by rw [hX]⟩
   ·have hd' : ¬ headF p.types.length f (decide (x = 0)) ≠ 0 := by simpa using hd
    rw [if_neg hd'] at hF
    simp -implicitDefEqProofs (disch := first|decide|assumption|omega|(simp -implicitDefEqProofs only [AM.RN];first|done|omega)|fail) only [↓AM.R0,AM.R1,AM.R2,Nat.reduceAdd,Nat.reduceLeDiff,Nat.reduceEqDiff,Int.reduceToNat,Nat.reduceLT,↓reduceIte,Int.reduceEq,Int.reduceLT,Int.reduceLE,e1,e2,e3,e28,e29,e30,hw]
    exact ⟨p.funcs.length - (x + 1), by omega,x + 1,f,sv,rv,cv,by omega,rfl,f23,n3,gP3,gR3,gC3,hF⟩
  ·simp only [decide_eq_false_iff_not] at hc
   rw [List.drop_of_length_le (by omega)] at hF
   have hall : (headsF p.types.length p.funcs 0).1 = 0 := by rw [hF]; rfl
   have hHp : Hp p := fun g hg => by
    obtain ⟨b,hb⟩ := headsF_ok hall g hg
    obtain ⟨q1,q2,q3,q4,q5,_⟩ := headF_ok hb
    exact ⟨q4,q5,q1,q2⟩
   have hHs : ∀ g,g ∈ p.funcs → Hs p g.slots ∧ g.code.length ≤ 256 := fun g hg => by
    obtain ⟨b,hb⟩ := headsF_ok hall g hg
    obtain ⟨q1,q2,q3,q4,q5,q6,_⟩ := headF_ok hb
    exact ⟨q6,q3⟩
   rw [hF,if_neg (by simp [headsF])] at hX
   clear hF hall
   simp -implicitDefEqProofs (disch := first|decide|assumption|omega|(simp -implicitDefEqProofs only [AM.RN];first|done|omega)|fail) only [↓AM.R0,AM.R1,AM.R2,Nat.reduceAdd,Nat.reduceLeDiff,Nat.reduceEqDiff,Int.reduceToNat,Nat.reduceLT,↓reduceIte,Int.reduceEq,Int.reduceLT,Int.reduceLE,e1,gP,l3]
   refine AM.loopI_of (fun k e h' => ∃ (x : Nat) (a0 a1 a2 a3 a4 a5 a6 a7 a8 a9 a10 : AVal), k + x = p.funcs.length ∧ e.val 1 = .ptr h.n 0 0 ∧ e.val 2 = .ptr (h.n + 1) 0 0 ∧ e.val 3 = .ptr (h.n + 2) 0 0 ∧ e.val 50 = fv ∧ e.val 51 = .int .i64 p.funcs.length ∧ e.val 52 = .int .i64 x ∧ HFrame h h' [] [] ∧ h.n + 3 ≤ h'.n ∧
    h'.get (h.n + 1) = .cells 0 false [.int .i64 0, .int .i64 0, .int .i64 0] ∧ h'.get (h.n + 2) = .cells 0 false [tv,gv,fv,a0,a1,a2,a3,a4,a5,a6,a7,a8,a9,a10] ∧
    codesF p p.funcs 0 = codesF p (p.funcs.drop x) x) p.funcs.length ?_ ?_
   ·refine ⟨0,_,_,_,_,_,_,_,_,_,_,_,by omega, ?_, ?_, ?_, ?_, ?_, ?_,fr,hn,gR,gC,by simp⟩ <;> simp -implicitDefEqProofs (disch := first|decide|assumption|omega|(simp -implicitDefEqProofs only [AM.RN];first|done|omega)|fail) only [↓AM.R0,AM.R1,AM.R2,Nat.reduceAdd,Nat.reduceLeDiff,Nat.reduceEqDiff,Int.reduceToNat,Nat.reduceLT,↓reduceIte,Int.reduceEq,Int.reduceLT,Int.reduceLE,e1,e2,e3] <;> rfl
   ·clear e1 e2 e3 e28 e29 e30 fr hn gP gR gC hk hc
    rintro k e h' ⟨x,a0,a1,a2,a3,a4,a5,a6,a7,a8,a9,a10,hk,e1,e2,e3,e50,e51,e52,fr,hn,gR,gC,hF⟩
    simp -implicitDefEqProofs (disch := first|decide|assumption|omega|(simp -implicitDefEqProofs only [AM.RN];first|done|omega)|fail) only [↓AM.R0,AM.R1,AM.R2,Nat.reduceAdd,Nat.reduceLeDiff,Nat.reduceEqDiff,Int.reduceToNat,Nat.reduceLT,↓reduceIte,Int.reduceEq,Int.reduceLT,Int.reduceLE,e50,e51,e52]
    refine AM.cI_bool (fun hc => ?_) (fun hc => ?_)
    ·simp only [decide_eq_true_eq] at hc
     obtain ⟨f,hf⟩ : ∃ f,p.funcs[x]? = some f := ⟨_,List.getElem?_eq_getElem (by omega)⟩
     obtain ⟨j,g2,off,vs,ro,row,x1,x2,x3,x4,x5,x6,sv,rv,cv,rfl,ys,yr,yc⟩ := (RF.mono (h' := h') (R' := FuncR h) (fun _ _ q => q) fr.n (fun j hj => fr.get j hj (by simp))).ix hf .i64
     have k1 := SlIn.cellv ys
     have k2 := SlIn.cellv yr
     have k3 := SlR.cellv yc
     have lc := yc.len
     have hw : IntKind.i64.wrap ((x : Int) + 1) = ((x + 1 : Nat) : Int) := wrap64 (by omega) (by omega)
     rw [codesF_drop hf] at hF
     simp -implicitDefEqProofs (disch := first|decide|assumption|omega|(simp -implicitDefEqProofs only [AM.RN];first|done|omega)|fail) only [↓AM.R0,AM.R1,AM.R2,Nat.reduceAdd,Nat.reduceLeDiff,Nat.reduceEqDiff,Int.reduceToNat,Nat.reduceLT,↓reduceIte,Int.reduceEq,Int.reduceLT,Int.reduceLE,e1,e2,e3,e50,e51,e52,x1,x2,x5,k1,k2,k3,gC,lc]
     have f2 := ((fr.pushTmp (.cells 0 false [.int .i64 0, .nils, .nils, .nils])).setTmp (i := h'.n) fr.n (.cells 0 false [.int .i64 f.params,sv,rv,cv])).setTmp (i := h.n + 2) (by omega) (.cells 0 false [tv,gv,fv, .int .i64 f.params,sv,rv,cv,a4,a5,a6,a7,a8,a9,a10])
     obtain ⟨hB,hhB⟩ : ∃ hB,hB = ((h'.push (.cells 0 false [.int .i64 0, .nils, .nils, .nils])).set h'.n (.cells 0 false [.int .i64 f.params,sv,rv,cv])).set (h.n + 2) (.cells 0 false [tv,gv,fv, .int .i64 f.params,sv,rv,cv,a4,a5,a6,a7,a8,a9,a10]) := ⟨_,rfl⟩
     have nB : hB.n = h'.n + 1 := by rw [hhB]; rfl
     have gR2 : hB.get (h.n + 1) = .cells 0 false [.int .i64 0, .int .i64 0, .int .i64 0] := by rw [hhB,AHeap.get_set_ne _ _ (by omega), AHeap.get_set_ne _ _ (by omega), AHeap.get_push_ne _ _ (by omega)]; exact gR
     have gC2 : hB.get (h.n + 2) = .cells 0 false [tv,gv,fv, .int .i64 f.params,sv,rv,cv,a4,a5,a6,a7,a8,a9,a10] := by rw [hhB]; exact AHeap.get_set_same _ _ _
     rw [← hhB] at f2 ⊢
     clear hhB
     obtain ⟨hs1,hs2⟩ := hHs f (List.mem_of_getElem? hf)
     refine AM.loopI_of (fun k e h2 => ∃ (y : Nat) (b4 b5 b6 b7 b8 b9 b10 : AVal), k + y = f.code.length ∧ e.val 1 = .ptr h.n 0 0 ∧ e.val 2 = .ptr (h.n + 1) 0 0 ∧ e.val 3 = .ptr (h.n + 2) 0 0 ∧ e.val 9 = .int .i64 x ∧ e.val 50 = fv ∧ e.val 51 = .int .i64 p.funcs.length ∧ e.val 52 = .int .i64 x ∧ e.val 62 = cv ∧ e.val 63 = .int .i64 f.code.length ∧ e.val 64 = .int .i64 y ∧ HFrame h h2 [] [] ∧ h.n + 3 ≤ h2.n ∧
      h2.get (h.n + 1) = .cells 0 false [.int .i64 0, .int .i64 0, .int .i64 0] ∧ h2.get (h.n + 2) = .cells 0 false [tv,gv,fv, .int .i64 f.params,sv,rv,cv,b4,b5,b6,b7,b8,b9,b10] ∧
      firstE (insF p f) f.code 0 = firstE (insF p f) (f.code.drop y) y) f.code.length ?_ ?_
     ·refine ⟨0,_,_,_,_,_,_,_,by omega, ?_, ?_, ?_, ?_, ?_, ?_, ?_, ?_, ?_, ?_,f2,by omega,gR2,gC2,by simp⟩ <;> simp -implicitDefEqProofs (disch := first|decide|assumption|omega|(simp -implicitDefEqProofs only [AM.RN];first|done|omega)|fail) only [↓AM.R0,AM.R1,AM.R2,Nat.reduceAdd,Nat.reduceLeDiff,Nat.reduceEqDiff,Int.reduceToNat,Nat.reduceLT,↓reduceIte,Int.reduceEq,Int.reduceLT,Int.reduceLE,e1,e2,e3,e50,e51,e52] <;> rfl
     ·clear e1 e2 e3 e50 e51 e52 f2 nB gR2 gC2 gR gC
      rintro k2 e h2 ⟨y,b4,b5,b6,b7,b8,b9,b10,hky,e1,e2,e3,e9,e50,e51,e52,e62,e63,e64,f2,n2,gR,gC,hE⟩
      simp -implicitDefEqProofs (disch := first|decide|assumption|omega|(simp -implicitDefEqProofs only [AM.RN];first|done|omega)|fail) only [↓AM.R0,AM.R1,AM.R2,Nat.reduceAdd,Nat.reduceLeDiff,Nat.reduceEqDiff,Int.reduceToNat,Nat.reduceLT,↓reduceIte,Int.reduceEq,Int.reduceLT,Int.reduceLE,e62,e63,e64]
      refine AM.cI_bool (fun hd => ?_) (fun hd => ?_)
      ·simp only [decide_eq_true_eq] at hd
       obtain ⟨z,hz⟩ : ∃ z,f.code[y]? = some z := ⟨_,List.getElem?_eq_getElem (by omega)⟩
       obtain ⟨j,g2,off,vs,ro,row,x1,x2,x3,x4,x5,x6,q7,lz,rfl,xl⟩ := (yc.mono (h' := h2) (R' := InsR h) (fun _ _ q => q) f2.n (fun j hj => f2.get j hj (by simp))).ix hz .i64
       have k4 := SlIn.cellv xl
       have kb := SlIn.beqv xl
       have hw2 : IntKind.i64.wrap ((y : Int) + 1) = ((y + 1 : Nat) : Int) := wrap64 (by omega) (by omega)
       rw [firstE_drop hz] at hE
       simp -implicitDefEqProofs (disch := first|decide|assumption|omega|(simp -implicitDefEqProofs only [AM.RN];first|done|omega)|fail) only [↓AM.R0,AM.R1,AM.R2,Nat.reduceAdd,Nat.reduceLeDiff,Nat.reduceEqDiff,Int.reduceToNat,Nat.reduceLT,↓reduceIte,Int.reduceEq,Int.reduceLT,Int.reduceLE,e1,e2,e3,e9,e50,e51,e52,e62,e63,e64,x1,x2,x5,k4,kb,gC]
       have f3 := (((f2.pushTmp (.cells 0 false [.int .i64 0, .int .i64 0, .int .i64 0, .int .i64 0, .int .u64 0, .nils])).setTmp (i := h2.n) f2.n (.cells 0 false [.int .i64 z.op, .int .i64 z.a, .int .i64 z.b, .int .i64 z.c, .int .u64 z.imm,lz])).setTmp (i := h.n + 2) (by omega) (.cells 0 false [tv,gv,fv, .int .i64 f.params,sv,rv,cv, .int .i64 y,b5,b6,b7,b8,b9,b10])).setTmp (i := h.n + 2) (by omega) (.cells 0 false [tv,gv,fv, .int .i64 f.params,sv,rv,cv, .int .i64 y, .int .i64 z.op, .int .i64 z.a, .int .i64 z.b, .int .i64 z.c, .int .u64 z.imm,lz])
       obtain ⟨hB,hhB⟩ : ∃ hB,hB = (((h2.push (.cells 0 false [.int .i64 0, .int .i64 0, .int .i64 0, .int .i64 0, .int .u64 0, .nils])).set h2.n (.cells 0 false [.int .i64 z.op, .int .i64 z.a, .int .i64 z.b, .int .i64 z.c, .int .u64 z.imm,lz])).set (h.n + 2) (.cells 0 false [tv,gv,fv, .int .i64 f.params,sv,rv,cv, .int .i64 y,b5,b6,b7,b8,b9,b10])).set (h.n + 2) (.cells 0 false [tv,gv,fv, .int .i64 f.params,sv,rv,cv, .int .i64 y, .int .i64 z.op, .int .i64 z.a, .int .i64 z.b, .int .i64 z.c, .int .u64 z.imm,lz]) := ⟨_,rfl⟩
       have nB : hB.n = h2.n + 1 := by rw [hhB]; rfl
       have gR2 : hB.get (h.n + 1) = .cells 0 false [.int .i64 0, .int .i64 0, .int .i64 0] := by rw [hhB,AHeap.get_set_ne _ _ (by omega), AHeap.get_set_ne _ _ (by omega), AHeap.get_set_ne _ _ (by omega), AHeap.get_push_ne _ _ (by omega)]; exact gR
       have gC2 : hB.get (h.n + 2) = .cells 0 false [tv,gv,fv, .int .i64 f.params,sv,rv,cv, .int .i64 y, .int .i64 z.op, .int .i64 z.a, .int .i64 z.b, .int .i64 z.c, .int .u64 z.imm,lz] := by rw [hhB]; exact AHeap.get_set_same _ _ _
       rw [← hhB] at f3 ⊢
       clear hhB
       have C3 : CkR hB (h.n + 2) p f z := mkCk f3 gC2 (by omega) RT RG RF ys yr yc q7 xl
       refine AM.callI_of (one C3 hs1 t5 t1 hHp) ?_
       rintro r h3 ⟨f34,rfl⟩
       have gR3 := (f34.get (h.n + 1) (by omega) (by simp)).trans gR2
       have gC3 := (f34.get (h.n + 2) (by omega) (by simp)).trans gC2
       have n3 : h.n + 3 ≤ h3.n := by have := f34.n; omega
       have f4 := f3.trans f34
       simp -implicitDefEqProofs (disch := first|decide|assumption|omega|(simp -implicitDefEqProofs only [AM.RN];first|done|omega)|fail) only [↓AM.R0,AM.R1,AM.R2,Nat.reduceAdd,Nat.reduceLeDiff,Nat.reduceEqDiff,Int.reduceToNat,Nat.reduceLT,↓reduceIte,Int.reduceEq,Int.reduceLT,Int.reduceLE]
       refine AM.cI_bool (fun hg => ?_) (fun hg => ?_)
       ·have hg' : insF p f z ≠ 0 := by simpa using hg
        rw [if_pos hg'] at hE
        rw [hE,if_pos hg'] at hF
        rw [hF] at hX
        simp -implicitDefEqProofs (disch := first|decide|assumption|omega|(simp -implicitDefEqProofs only [AM.RN];first|done|omega)|fail) only [↓AM.R0,AM.R1,AM.R2,Nat.reduceAdd,Nat.reduceLeDiff,Nat.reduceEqDiff,Int.reduceToNat,Nat.reduceLT,↓reduceIte,Int.reduceEq,Int.reduceLT,Int.reduceLE,e2,e9,gR3]
        subst hQ
        exact ⟨f4.setTmp (by omega) _,by rw [hX]⟩
       ·have hg' : ¬ insF p f z ≠ 0 := by simpa using hg
        rw [if_neg hg'] at hE
        simp -implicitDefEqProofs (disch := first|decide|assumption|omega|(simp -implicitDefEqProofs only [AM.RN];first|done|omega)|fail) only [↓AM.R0,AM.R1,AM.R2,Nat.reduceAdd,Nat.reduceLeDiff,Nat.reduceEqDiff,Int.reduceToNat,Nat.reduceLT,↓reduceIte,Int.reduceEq,Int.reduceLT,Int.reduceLE,e1,e2,e3,e9,e50,e51,e52,e62,e63,e64,hw2]
        exact ⟨f.code.length - (y + 1), by omega,y + 1,_,_,_,_,_,_,_,by omega,rfl,f4,n3,gR3,gC3,hE⟩
      ·simp only [decide_eq_false_iff_not] at hd
       rw [List.drop_of_length_le (by omega)] at hE
       rw [hE,if_neg (by simp [firstE])] at hF
       simp -implicitDefEqProofs (disch := first|decide|assumption|omega|(simp -implicitDefEqProofs only [AM.RN];first|done|omega)|fail) only [↓AM.R0,AM.R1,AM.R2,Nat.reduceAdd,Nat.reduceLeDiff,Nat.reduceEqDiff,Int.reduceToNat,Nat.reduceLT,↓reduceIte,Int.reduceEq,Int.reduceLT,Int.reduceLE,e1,e2,e3,e50,e51,e52,hw]
       exact ⟨p.funcs.length - (x + 1), by omega,x + 1,_,_,_,_,_,_,_,_,_,_,_,by omega,rfl,f2,n2,gR,gC,hF⟩
    ·simp only [decide_eq_false_iff_not] at hc
     rw [List.drop_of_length_le (by omega)] at hF
     rw [hF] at hX
     simp -implicitDefEqProofs (disch := first|decide|assumption|omega|(simp -implicitDefEqProofs only [AM.RN];first|done|omega)|fail) only [↓AM.R0,AM.R1,AM.R2,Nat.reduceAdd,Nat.reduceLeDiff,Nat.reduceEqDiff,Int.reduceToNat,Nat.reduceLT,↓reduceIte,Int.reduceEq,Int.reduceLT,Int.reduceLE,e2,gR]
     subst hQ
     exact ⟨fr.setTmp (by omega) _,by rw [hX]; rfl⟩
end Go.Proofs.Ytofcnjglnnoimaa.Vf
namespace Go.Proofs.Ytofcnjglnnoimaa.Vf
open Go Go.AM Go.Proofs.Ytofcnjglnnoimaa.AmGY
attribute [local irreducible] AM.wp AM.wpIs AM.wpTr AM.opI AM.gI AM.cI AM.trI AM.callI AM.fnI AM.trG AM.trOp AM.trCall AM.seqC AM.loopI
set_option maxRecDepth 100000
set_option linter.unusedVariables false
set_option linter.unusedSimpArgs false
/-- A slice of numbers in an object of its own. -/
theorem litK {h : AHeap} {id : Nat} {l : List Int} {vs : List AVal} (g : h.get id = .cells 0 false vs) (lt : id < h.n) (e : vs = l.map fun n => .int .i64 n) : SlIn h 1 encK (.sl id 0 0 l.length 1) l := by
 have hm : ∀ l : List Int,l.flatMap encK = l.map fun n => .int .i64 n := fun l => by
  induction l with
  | nil => rfl
  | cons a l ih => rw [List.flatMap_cons,ih]; rfl
 subst e
 exact .inl (.inr ⟨id,0,0,_,false,rfl,g,lt,by simp,by rw [hm,List.drop_zero,List.take_of_length_le (by simp)]⟩)
inductive All2 {α β : Type} (R : α → β → Prop) : List α → List β → Prop
 | nil : All2 R [] []
 | cons {a b l m} : R a b → All2 R l m → All2 R (a :: l) (b :: m)
theorem All2.len {α β : Type} {R : α → β → Prop} {l : List α} {m : List β} (h : All2 R l m) : l.length = m.length := by
 induction h with
 | nil => rfl
 | cons _ _ ih => simp [ih]
theorem SlR.lit {α : Type} {h : AHeap} {esz : Nat} {R : α → List AVal → Prop} {id : Nat} {l : List α} {rows : List (List AVal)} {vs : List AVal} {ro : Bool} (g : h.get id = .cells 0 ro vs) (lt : id < h.n) (e : vs = rows.flatten) (he : ∀ row,row ∈ rows → row.length = esz)
  (hR : All2 R l rows) : SlR h esz R (.sl id 0 0 l.length esz) l := by
 have hl : l.length = rows.length := hR.len
 have hf : rows.flatten.length = rows.length * esz := by
  clear hR hl e
  induction rows with
  | nil => simp
  | cons r rs ih =>
   have := he r List.mem_cons_self
   have h3 := ih (fun row h => he row (List.mem_cons_of_mem _ h))
   simp only [List.flatten_cons,List.length_append,List.length_cons,Nat.add_mul,Nat.one_mul]; omega
 refine .inr (.inr ⟨id,0,0,vs,ro,rows,rfl,g,lt,by rw [e,hf,hl]; omega,by rw [List.drop_zero,e,List.take_of_length_le (by rw [hf,hl]; exact Nat.le_refl _)],hl.symm,he, ?_⟩)
 clear he hf hl e g
 induction hR with
 | nil => intro i a row h1; simp at h1
 | cons q _ ih =>
  intro i a row h1 h2
  cases i with
  | zero => simp only [List.getElem?_cons_zero,Option.some.injEq] at h1 h2; subst h1 h2; exact q
  | succ i => exact ih i a row (by simpa using h1) (by simpa using h2)
theorem insNil {h : AHeap} {i : PIns} (hi : i.imm ≤ 18446744073709551615) (e : i.list = []) : InsR h i [.int .i64 i.op, .int .i64 i.a, .int .i64 i.b, .int .i64 i.c, .int .u64 i.imm, .nils] := ⟨hi, .nils,rfl,by rw [e]; exact .inl (.inl ⟨rfl,rfl⟩)⟩
theorem nilK {h : AHeap} : SlIn h 1 encK .nils [] := .inl (.inl ⟨rfl,rfl⟩)
def goodP : PProg := ⟨[], [], [⟨0, [0], [], [⟨1,0,0,0,7, []⟩, ⟨48,0,0,0,0, []⟩, ⟨36,0,0,0,0, []⟩]⟩]⟩
def badP : PProg := ⟨[], [], [⟨0, [0], [], [⟨48,1,0,0,0, []⟩, ⟨36,0,0,0,0, []⟩]⟩]⟩
theorem good_ok : goodP.Ok := by
 refine ⟨by simp [goodP],by simp [goodP],fun f hf => ?_⟩
 simp only [goodP,List.mem_cons,List.not_mem_nil,or_false] at hf
 subst hf
 refine ⟨by decide,by decide,by decide,fun i hi => ?_⟩
 simp only [List.mem_cons,List.not_mem_nil,or_false] at hi
 rcases hi with rfl | rfl | rfl <;> exact ⟨by decide,by decide,by decide,by decide,by decide,by simp⟩
theorem bad_ok : badP.Ok := by
 refine ⟨by simp [badP],by simp [badP],fun f hf => ?_⟩
 simp only [badP,List.mem_cons,List.not_mem_nil,or_false] at hf
 subst hf
 refine ⟨by decide,by decide,by decide,fun i hi => ?_⟩
 simp only [List.mem_cons,List.not_mem_nil,or_false] at hi
 rcases hi with rfl | rfl <;> exact ⟨by decide,by decide,by decide,by decide,by decide,by simp⟩
theorem good_check : checkF goodP = (0,0,0) := by rfl
theorem bad_check : checkF badP = (11,0,0) := by rfl
set_option maxHeartbeats 1000000 in
theorem awake (h : AHeap) : CallP AP 18 [] h fun r h' => HFrame h h' [] [] ∧ r = .bool true := by
 refine callP (rfl : Tr.get AP 18 = some A18) ?_
 generalize hQ : (fun (r : AVal) (h' : AHeap) => _) = Q
 simp -implicitDefEqProofs (disch := first|decide|assumption|omega|(simp -implicitDefEqProofs only [AM.RN];first|done|omega)|fail) only [↓AM.R0,AM.R1,AM.R2,Nat.reduceAdd,Nat.reduceLeDiff,Nat.reduceEqDiff,Int.reduceToNat,Nat.reduceLT,↓reduceIte,Int.reduceEq,Int.reduceLT,Int.reduceLE,AM.a_buildSlice,List.range,List.range.loop,List.getD_cons_zero,List.getD_cons_succ,Nat.mod_one,Nat.reduceMod,Nat.reduceMul]
 obtain ⟨hA,hhA⟩ : ∃ hA,hA = ((((((((((h.push (.cells 0 false [.int .i64 0])).push (.cells 0 false [.int .i64 1, .int .i64 0, .int .i64 0, .int .i64 0, .int .u64 7, .nils, .int .i64 48, .int .i64 0, .int .i64 0, .int .i64 0, .int .u64 0, .nils, .int .i64 36, .int .i64 0, .int .i64 0, .int .i64 0, .int .u64 0, .nils])).push
  (.cells 0 false [.int .i64 0, .sl h.n 0 0 1 1, .nils, .sl (h.n + 1) 0 0 3 6])).push (.cells 0 false [.nils, .nils, .nils])).set (h.n + 1 + 1 + 1) (.cells 0 false [.nils, .nils, .sl (h.n + 1 + 1) 0 0 1 4])).push (.cells 0 false [.int .i64 0])).push
  (.cells 0 false [.int .i64 48, .int .i64 1, .int .i64 0, .int .i64 0, .int .u64 0, .nils, .int .i64 36, .int .i64 0, .int .i64 0, .int .i64 0, .int .u64 0, .nils])).push (.cells 0 false [.int .i64 0, .sl (h.n + 1 + 1 + 1 + 1) 0 0 1 1, .nils, .sl (h.n + 1 + 1 + 1 + 1 + 1) 0 0 2 6])).push (.cells 0 false [.nils, .nils, .nils])).set
  (h.n + 1 + 1 + 1 + 1 + 1 + 1 + 1) (.cells 0 false [.nils, .nils, .sl (h.n + 1 + 1 + 1 + 1 + 1 + 1) 0 0 1 4])) := ⟨_,rfl⟩
 have g0 : hA.get h.n = .cells 0 false [.int .i64 0] := by rw [hhA]; simp -implicitDefEqProofs (disch := first|decide|assumption|omega|(simp -implicitDefEqProofs only [AM.RN];first|done|omega)|fail) only [↓AM.R0,AM.R1,AM.R2,Nat.reduceAdd,Nat.reduceLeDiff,Nat.reduceEqDiff,Int.reduceToNat,Nat.reduceLT,↓reduceIte,Int.reduceEq,Int.reduceLT,Int.reduceLE]
 have g1 : hA.get (h.n + 1) = .cells 0 false [.int .i64 1, .int .i64 0, .int .i64 0, .int .i64 0, .int .u64 7, .nils, .int .i64 48, .int .i64 0, .int .i64 0, .int .i64 0, .int .u64 0, .nils, .int .i64 36, .int .i64 0, .int .i64 0, .int .i64 0, .int .u64 0, .nils] := by rw [hhA]; simp -implicitDefEqProofs (disch := first|decide|assumption|omega|(simp -implicitDefEqProofs only [AM.RN];first|done|omega)|fail) only [↓AM.R0,AM.R1,AM.R2,Nat.reduceAdd,Nat.reduceLeDiff,Nat.reduceEqDiff,Int.reduceToNat,Nat.reduceLT,↓reduceIte,Int.reduceEq,Int.reduceLT,Int.reduceLE]
 have g2 : hA.get (h.n + 1 + 1) = .cells 0 false [.int .i64 0, .sl h.n 0 0 1 1, .nils, .sl (h.n + 1) 0 0 3 6] := by rw [hhA]; simp -implicitDefEqProofs (disch := first|decide|assumption|omega|(simp -implicitDefEqProofs only [AM.RN];first|done|omega)|fail) only [↓AM.R0,AM.R1,AM.R2,Nat.reduceAdd,Nat.reduceLeDiff,Nat.reduceEqDiff,Int.reduceToNat,Nat.reduceLT,↓reduceIte,Int.reduceEq,Int.reduceLT,Int.reduceLE]
 have g4 : hA.get (h.n + 1 + 1 + 1 + 1) = .cells 0 false [.int .i64 0] := by rw [hhA]; simp -implicitDefEqProofs (disch := first|decide|assumption|omega|(simp -implicitDefEqProofs only [AM.RN];first|done|omega)|fail) only [↓AM.R0,AM.R1,AM.R2,Nat.reduceAdd,Nat.reduceLeDiff,Nat.reduceEqDiff,Int.reduceToNat,Nat.reduceLT,↓reduceIte,Int.reduceEq,Int.reduceLT,Int.reduceLE]
 have g5 : hA.get (h.n + 1 + 1 + 1 + 1 + 1) = .cells 0 false [.int .i64 48, .int .i64 1, .int .i64 0, .int .i64 0, .int .u64 0, .nils, .int .i64 36, .int .i64 0, .int .i64 0, .int .i64 0, .int .u64 0, .nils] := by rw [hhA]; simp -implicitDefEqProofs (disch := first|decide|assumption|omega|(simp -implicitDefEqProofs only [AM.RN];first|done|omega)|fail) only [↓AM.R0,AM.R1,AM.R2,Nat.reduceAdd,Nat.reduceLeDiff,Nat.reduceEqDiff,Int.reduceToNat,Nat.reduceLT,↓reduceIte,Int.reduceEq,Int.reduceLT,Int.reduceLE]
 have g6 : hA.get (h.n + 1 + 1 + 1 + 1 + 1 + 1) = .cells 0 false [.int .i64 0, .sl (h.n + 1 + 1 + 1 + 1) 0 0 1 1, .nils, .sl (h.n + 1 + 1 + 1 + 1 + 1) 0 0 2 6] := by rw [hhA]; simp -implicitDefEqProofs (disch := first|decide|assumption|omega|(simp -implicitDefEqProofs only [AM.RN];first|done|omega)|fail) only [↓AM.R0,AM.R1,AM.R2,Nat.reduceAdd,Nat.reduceLeDiff,Nat.reduceEqDiff,Int.reduceToNat,Nat.reduceLT,↓reduceIte,Int.reduceEq,Int.reduceLT,Int.reduceLE]
 have g7 : hA.get (h.n + 1 + 1 + 1 + 1 + 1 + 1 + 1) = .cells 0 false [.nils, .nils, .sl (h.n + 1 + 1 + 1 + 1 + 1 + 1) 0 0 1 4] := by rw [hhA]; exact AHeap.get_set_same _ _ _
 have nA : hA.n = h.n + 8 := by rw [hhA]; rfl
 have fA : HFrame h hA [] [] := by
  rw [hhA]
  exact (((((((((((HFrame.refl (h := h) (F := []) (by simp)).pushTmp _).pushTmp _).pushTmp _).pushTmp _).setTmp (by omega) _).pushTmp _).pushTmp _).pushTmp _).pushTmp _).setTmp (by omega) _)
 rw [← hhA]
 clear hhA
 have RG : ProgR hA goodP [.nils, .nils, .sl (h.n + 1 + 1) 0 0 1 4] := by
  refine ⟨.nils, .nils,_,rfl, .inl ⟨rfl,rfl⟩, nilK,SlR.lit (l := goodP.funcs) (rows := [[.int .i64 0, .sl h.n 0 0 1 1, .nils, .sl (h.n + 1) 0 0 3 6]]) g2 (by omega) rfl (by simp) (.cons ⟨_,_,_,rfl,litK (l := [0]) g0 (by omega) rfl,nilK,SlR.lit (esz := 6) (l := [(⟨1,0,0,0,7, []⟩ : PIns), ⟨48,0,0,0,0, []⟩, ⟨36,0,0,0,0, []⟩]) (rows := [[.int .i64 1, .int .i64 0, .int .i64 0, .int .i64 0, .int .u64 7, .nils], [.int .i64 48, .int .i64 0, .int .i64 0, .int .i64 0, .int .u64 0, .nils], [.int .i64 36, .int .i64 0, .int .i64 0, .int .i64 0, .int .u64 0, .nils]]) g1 (by omega) rfl (by simp) ?_⟩ .nil)⟩
  exact .cons (insNil (i := ⟨1,0,0,0,7, []⟩) (by decide) rfl) (.cons (insNil (i := ⟨48,0,0,0,0, []⟩) (by decide) rfl) (.cons (insNil (i := ⟨36,0,0,0,0, []⟩) (by decide) rfl) .nil))
 have RB : ProgR hA badP [.nils, .nils, .sl (h.n + 1 + 1 + 1 + 1 + 1 + 1) 0 0 1 4] := by
  refine ⟨.nils, .nils,_,rfl, .inl ⟨rfl,rfl⟩, nilK,SlR.lit (l := badP.funcs) (rows := [[.int .i64 0, .sl (h.n + 1 + 1 + 1 + 1) 0 0 1 1, .nils, .sl (h.n + 1 + 1 + 1 + 1 + 1) 0 0 2 6]]) g6 (by omega) rfl (by simp) (.cons ⟨_,_,_,rfl,litK (l := [0]) g4 (by omega) rfl,nilK,SlR.lit (esz := 6) (l := [(⟨48,1,0,0,0, []⟩ : PIns), ⟨36,0,0,0,0, []⟩]) (rows := [[.int .i64 48, .int .i64 1, .int .i64 0, .int .i64 0, .int .u64 0, .nils], [.int .i64 36, .int .i64 0, .int .i64 0, .int .i64 0, .int .u64 0, .nils]]) g5 (by omega) rfl (by simp) ?_⟩ .nil)⟩
  exact .cons (insNil (i := ⟨48,1,0,0,0, []⟩) (by decide) rfl) (.cons (insNil (i := ⟨36,0,0,0,0, []⟩) (by decide) rfl) .nil)
 refine AM.callI_of (check RG good_ok) ?_
 rintro r h1 ⟨f1,rfl⟩
 rw [good_check]
 have g71 := (f1.get (h.n + 1 + 1 + 1 + 1 + 1 + 1 + 1) (by omega) (by simp)).trans g7
 have n1 : h.n + 8 ≤ h1.n := by have := f1.n; omega
 simp -implicitDefEqProofs (disch := first|decide|assumption|omega|(simp -implicitDefEqProofs only [AM.RN];first|done|omega)|fail) only [↓AM.R0,AM.R1,AM.R2,Nat.reduceAdd,Nat.reduceLeDiff,Nat.reduceEqDiff,Int.reduceToNat,Nat.reduceLT,↓reduceIte,Int.reduceEq,Int.reduceLT,Int.reduceLE,g71]
 refine AM.callI_of (check (RB.keep f1) bad_ok) ?_
 rintro r h2 ⟨f2,rfl⟩
 rw [bad_check]
 simp -implicitDefEqProofs (disch := first|decide|assumption|omega|(simp -implicitDefEqProofs only [AM.RN];first|done|omega)|fail) only [↓AM.R0,AM.R1,AM.R2,Nat.reduceAdd,Nat.reduceLeDiff,Nat.reduceEqDiff,Int.reduceToNat,Nat.reduceLT,↓reduceIte,Int.reduceEq,Int.reduceLT,Int.reduceLE]
 refine AM.callI_of (isRef 16 h2) ?_
 rintro r h3 ⟨rfl,rfl⟩
 simp -implicitDefEqProofs (disch := first|decide|assumption|omega|(simp -implicitDefEqProofs only [AM.RN];first|done|omega)|fail) only [↓AM.R0,AM.R1,AM.R2,Nat.reduceAdd,Nat.reduceLeDiff,Nat.reduceEqDiff,Int.reduceToNat,Nat.reduceLT,↓reduceIte,Int.reduceEq,Int.reduceLT,Int.reduceLE]
 refine AM.callI_of (isRef 2 h3) ?_
 rintro r h4 ⟨rfl,rfl⟩
 simp -implicitDefEqProofs (disch := first|decide|assumption|omega|(simp -implicitDefEqProofs only [AM.RN];first|done|omega)|fail) only [↓AM.R0,AM.R1,AM.R2,Nat.reduceAdd,Nat.reduceLeDiff,Nat.reduceEqDiff,Int.reduceToNat,Nat.reduceLT,↓reduceIte,Int.reduceEq,Int.reduceLT,Int.reduceLE]
 subst hQ
 exact ⟨(fA.trans f1).trans f2,rfl⟩
end Go.Proofs.Ytofcnjglnnoimaa.Vf
namespace Go.Proofs.Ytofcnjglnnoimaa.Vf
open Go Go.AM Go.Proofs.Ytofcnjglnnoimaa.AmGY
attribute [local irreducible] AM.wp AM.wpIs AM.wpTr AM.opI AM.gI AM.cI AM.trI AM.callI AM.fnI AM.trG AM.trOp AM.trCall AM.seqC AM.loopI
set_option maxRecDepth 100000
set_option linter.unusedVariables false
set_option linter.unusedSimpArgs false
end Go.Proofs.Ytofcnjglnnoimaa.Vf
