/-
 What the functions of this seat do,on the machine: lemmas for the laws.
-/
import Derived.Test.YtnbnpjhlflcjeaaBX6
import Derived.Test.YtnbnpjhlflcjeaaBX10
set_option linter.unusedSimpArgs false
set_option linter.unusedVariables false
set_option maxRecDepth 100000
attribute [local irreducible] Go.AM.wp Go.AM.wpIs Go.AM.wpTr Go.AM.opI Go.AM.gI Go.AM.cI Go.AM.trI Go.AM.callI Go.AM.fnI Go.AM.yldI Go.AM.rangeI Go.AM.rangeC Go.AM.YldP Go.AM.asgQ Go.AM.roundQ Go.AM.rangeQ Go.AM.trG Go.AM.trOp Go.AM.trCall Go.AM.seqC Go.AM.loopI
namespace Go.Proofs.Ytnbnpjhlflcjeaa.Id
open Go Go.AM Go.Proofs.Ytnbnpjhlflcjeaa.AmGB
open Nat renaming reduceAdd → qA,reduceLeDiff → qB,reduceEqDiff → qC,reduceLT → qE
open Int renaming reduceToNat → qD,reduceEq → qG,reduceLT → qH,reduceLE → qI
section
variable {h0 h h':AHeap} {K:Nat→Tag} {γ:GI} {R:Run}
set_option maxHeartbeats 40000000 in
theorem exec2 (P:RunP h γ R) {k j i:Nat} {r:Routine} {f:Frame} {x:Nat×List Nat} (a:At h γ R k j r f x i) {sv iv lv vv fv:AVal} {la:List (Int×AVal)} (s:RtV h γ.K k x.1 x.2 r fv) (q:FrV h γ.K k j i f sv iv lv vv la) {z:PIns} {zv:AVal} (hz:Ro h γ.K fun h=>SlRd h 1 encK zv z.list) {choice:Int} {R':Run} (hp:R.execute k j z choice=some R') (hm:z.op=3∨z.op=4∨z.op=5∨z.op=6∨z.op=7∨z.op=8∨z.op=9∨z.op=10∨z.op=11∨z.op=12∨z.op=13∨z.op=14∨z.op=23) :
  CallP AP 39 [.ptr γ.d 0 0,.ptr x.1 0 0,.ptr i 0 0,.agg (rowI z zv),.int .u64 choice] h fun v h'=>∃ γ',RunP h' γ' R'∧Nxt h h' γ γ':=by
 refine callP (rfl:Tr.get AP 39=some A39) ?_
 generalize hQ:(fun (r:AVal) (h':AHeap)=>_)=Q
 have c1:=(Chg.refl (fun _=>False) h γ.K).push (.cells 0 false (rowI z zv))
 have N1:=Nxt.tmp c1
 have P1:=P.tmp c1
 have q1:=q.keep c1 (fun q=>q) (fun q=>q) (fun q=>q) (fun q=>q)
 have r1:=s.keep c1 (fun q=>q) (fun q=>q) (fun q=>q) (fun k=>⟨fun q=>q,fun q=>q,fun q=>q⟩)
 have z1:=hz.keep c1 (fun q=>q)
 have ho:=P1.obj
 have hlt:=P1.ltd
 have kn:=P.kn
 have gt:(h.push (.cells 0 false (rowI z zv))).get h.n=.cells 0 false (rowI z zv):=AHeap.get_push_same _ _
 have lt:h.n<(h.push (.cells 0 false (rowI z zv))).n:=by simp
 have zc:=hz.now.cells
 have zb:=hz.now.beq
 simp -implicitDefEqProofs (disch:=first|exact dz _|fail) only [↓AM.R0,AM.R1,AM.R2,qA,qB,qC,qD,qE,↓reduceIte,qG,qH,qI,rowI,zc.2]
 generalize (h.push (.cells 0 false (rowI z zv)))=h1 at *
 generalize h.n=t at *
 have a1:At h1 γ R k j r f x i:=⟨a.hr,a.hf,a.hx,a.hi⟩
 have hq:=q1.obj
 have hqlt:=q1.lt
 have hro:=r1.obj
 have hrlt:=r1.lt
 have sb:=q1.slots.beq
 have ne:t≠i:=fun e=>by have:=q1.kid;rw [←e,kn] at this;cases this
 obtain ⟨op,za,zzb,zzc,imm,list⟩:=z
 simp only [rowI] at gt hp hm z1 ⊢
 unfold Run.execute at hp
 rw [a.hr] at hp
 simp only [Option.bind_some,a.hf] at hp
 rcases hm with rfl | rfl | rfl | rfl | rfl | rfl | rfl | rfl | rfl | rfl | rfl | rfl | rfl
 ·-- 3
  simp only [Int.reduceEq,if_false,if_true,isWhole,isFloat,isMem,isCall,isChan,Int.reduceLE,decide_true,decide_false,Bool.and_true,Bool.true_and,Bool.and_false,Bool.false_and,Bool.or_false,Bool.or_true,Bool.false_or,Bool.true_or,Bool.and_self,Bool.or_self,Bool.false_eq_true,Option.bind_eq_some_iff] at hp
  obtain ⟨wx,hwx,wy,hwy,o,ho',hp⟩:=hp
  obtain ⟨id1,g1,o1,vs1,x1a,x1b,x1c,x1d⟩:=q1.slots.ix (enc:=fun n=>.int .u64 n) hwx
  obtain ⟨id2,g2,o2,vs2,x2a,x2b,x2c,x2d⟩:=q1.slots.ix (enc:=fun n=>.int .u64 n) hwy
  simp -implicitDefEqProofs (disch:=first|exact dz _|fail) only [↓AM.R0,AM.R1,AM.R2,qA,qB,qC,qD,qE,↓reduceIte,qG,qH,qI,gt,hq,x1a,x1b,x1d,x2a,x2b,x2d]
  refine AM.trCall_of (whole _ _ _ _ rfl ho') ?_
  rintro v h3 ⟨rfl,rfl⟩
  cases o with
  | none =>
   simp -implicitDefEqProofs (disch:=first|exact dz _|fail) only [↓AM.R0,AM.R1,AM.R2,qA,qB,qC,qD,qE,↓reduceIte,qG,qH,qI,gt,hq,Option.getD,Option.isSome,x1a,x1b,x1d,x2a,x2b,x2d]
   refine AM.callI_of (panic P1 hp) ?_
   rintro v h3 ⟨γ',P3,N3⟩
   simp -implicitDefEqProofs (disch:=first|exact dz _|fail) only [↓AM.R0,AM.R1,AM.R2,qA,qB,qC,qD,qE,↓reduceIte,qG,qH,qI]
   subst hQ
   exact ⟨γ',P3,N1.trans N3⟩
  | some w =>
   obtain ⟨id5,g5,o5,vs5,y1,y2,y3,y4,P2,N2,_⟩:=P1.put a1 q1 hp
   simp -implicitDefEqProofs (disch:=first|exact dz _|fail) only [↓AM.R0,AM.R1,AM.R2,qA,qB,qC,qD,qE,↓reduceIte,qG,qH,qI,gt,hq,Option.getD,Option.isSome,y1,y3,y4,x1a,x1b,x1d,x2a,x2b,x2d]
   subst hQ
   exact ⟨γ,P2,N1.trans N2⟩
 ·-- 4
  simp only [Int.reduceEq,if_false,if_true,isWhole,isFloat,isMem,isCall,isChan,Int.reduceLE,decide_true,decide_false,Bool.and_true,Bool.true_and,Bool.and_false,Bool.false_and,Bool.or_false,Bool.or_true,Bool.false_or,Bool.true_or,Bool.and_self,Bool.or_self,Bool.false_eq_true,Option.bind_eq_some_iff] at hp
  obtain ⟨wx,hwx,wy,hwy,o,ho',hp⟩:=hp
  obtain ⟨id1,g1,o1,vs1,x1a,x1b,x1c,x1d⟩:=q1.slots.ix (enc:=fun n=>.int .u64 n) hwx
  obtain ⟨id2,g2,o2,vs2,x2a,x2b,x2c,x2d⟩:=q1.slots.ix (enc:=fun n=>.int .u64 n) hwy
  simp -implicitDefEqProofs (disch:=first|exact dz _|fail) only [↓AM.R0,AM.R1,AM.R2,qA,qB,qC,qD,qE,↓reduceIte,qG,qH,qI,gt,hq,x1a,x1b,x1d,x2a,x2b,x2d]
  refine AM.trCall_of (whole _ _ _ _ rfl ho') ?_
  rintro v h3 ⟨rfl,rfl⟩
  cases o with
  | none =>
   simp -implicitDefEqProofs (disch:=first|exact dz _|fail) only [↓AM.R0,AM.R1,AM.R2,qA,qB,qC,qD,qE,↓reduceIte,qG,qH,qI,gt,hq,Option.getD,Option.isSome,x1a,x1b,x1d,x2a,x2b,x2d]
   refine AM.callI_of (panic P1 hp) ?_
   rintro v h3 ⟨γ',P3,N3⟩
   simp -implicitDefEqProofs (disch:=first|exact dz _|fail) only [↓AM.R0,AM.R1,AM.R2,qA,qB,qC,qD,qE,↓reduceIte,qG,qH,qI]
   subst hQ
   exact ⟨γ',P3,N1.trans N3⟩
  | some w =>
   obtain ⟨id5,g5,o5,vs5,y1,y2,y3,y4,P2,N2,_⟩:=P1.put a1 q1 hp
   simp -implicitDefEqProofs (disch:=first|exact dz _|fail) only [↓AM.R0,AM.R1,AM.R2,qA,qB,qC,qD,qE,↓reduceIte,qG,qH,qI,gt,hq,Option.getD,Option.isSome,y1,y3,y4,x1a,x1b,x1d,x2a,x2b,x2d]
   subst hQ
   exact ⟨γ,P2,N1.trans N2⟩
 ·-- 5
  simp only [Int.reduceEq,if_false,if_true,isWhole,isFloat,isMem,isCall,isChan,Int.reduceLE,decide_true,decide_false,Bool.and_true,Bool.true_and,Bool.and_false,Bool.false_and,Bool.or_false,Bool.or_true,Bool.false_or,Bool.true_or,Bool.and_self,Bool.or_self,Bool.false_eq_true,Option.bind_eq_some_iff] at hp
  obtain ⟨wx,hwx,wy,hwy,o,ho',hp⟩:=hp
  obtain ⟨id1,g1,o1,vs1,x1a,x1b,x1c,x1d⟩:=q1.slots.ix (enc:=fun n=>.int .u64 n) hwx
  obtain ⟨id2,g2,o2,vs2,x2a,x2b,x2c,x2d⟩:=q1.slots.ix (enc:=fun n=>.int .u64 n) hwy
  simp -implicitDefEqProofs (disch:=first|exact dz _|fail) only [↓AM.R0,AM.R1,AM.R2,qA,qB,qC,qD,qE,↓reduceIte,qG,qH,qI,gt,hq,x1a,x1b,x1d,x2a,x2b,x2d]
  refine AM.trCall_of (whole _ _ _ _ rfl ho') ?_
  rintro v h3 ⟨rfl,rfl⟩
  cases o with
  | none =>
   simp -implicitDefEqProofs (disch:=first|exact dz _|fail) only [↓AM.R0,AM.R1,AM.R2,qA,qB,qC,qD,qE,↓reduceIte,qG,qH,qI,gt,hq,Option.getD,Option.isSome,x1a,x1b,x1d,x2a,x2b,x2d]
   refine AM.callI_of (panic P1 hp) ?_
   rintro v h3 ⟨γ',P3,N3⟩
   simp -implicitDefEqProofs (disch:=first|exact dz _|fail) only [↓AM.R0,AM.R1,AM.R2,qA,qB,qC,qD,qE,↓reduceIte,qG,qH,qI]
   subst hQ
   exact ⟨γ',P3,N1.trans N3⟩
  | some w =>
   obtain ⟨id5,g5,o5,vs5,y1,y2,y3,y4,P2,N2,_⟩:=P1.put a1 q1 hp
   simp -implicitDefEqProofs (disch:=first|exact dz _|fail) only [↓AM.R0,AM.R1,AM.R2,qA,qB,qC,qD,qE,↓reduceIte,qG,qH,qI,gt,hq,Option.getD,Option.isSome,y1,y3,y4,x1a,x1b,x1d,x2a,x2b,x2d]
   subst hQ
   exact ⟨γ,P2,N1.trans N2⟩
 ·-- 6
  simp only [Int.reduceEq,if_false,if_true,isWhole,isFloat,isMem,isCall,isChan,Int.reduceLE,decide_true,decide_false,Bool.and_true,Bool.true_and,Bool.and_false,Bool.false_and,Bool.or_false,Bool.or_true,Bool.false_or,Bool.true_or,Bool.and_self,Bool.or_self,Bool.false_eq_true,Option.bind_eq_some_iff] at hp
  obtain ⟨wx,hwx,wy,hwy,o,ho',hp⟩:=hp
  obtain ⟨id1,g1,o1,vs1,x1a,x1b,x1c,x1d⟩:=q1.slots.ix (enc:=fun n=>.int .u64 n) hwx
  obtain ⟨id2,g2,o2,vs2,x2a,x2b,x2c,x2d⟩:=q1.slots.ix (enc:=fun n=>.int .u64 n) hwy
  simp -implicitDefEqProofs (disch:=first|exact dz _|fail) only [↓AM.R0,AM.R1,AM.R2,qA,qB,qC,qD,qE,↓reduceIte,qG,qH,qI,gt,hq,x1a,x1b,x1d,x2a,x2b,x2d]
  refine AM.trCall_of (whole _ _ _ _ rfl ho') ?_
  rintro v h3 ⟨rfl,rfl⟩
  cases o with
  | none =>
   simp -implicitDefEqProofs (disch:=first|exact dz _|fail) only [↓AM.R0,AM.R1,AM.R2,qA,qB,qC,qD,qE,↓reduceIte,qG,qH,qI,gt,hq,Option.getD,Option.isSome,x1a,x1b,x1d,x2a,x2b,x2d]
   refine AM.callI_of (panic P1 hp) ?_
   rintro v h3 ⟨γ',P3,N3⟩
   simp -implicitDefEqProofs (disch:=first|exact dz _|fail) only [↓AM.R0,AM.R1,AM.R2,qA,qB,qC,qD,qE,↓reduceIte,qG,qH,qI]
   subst hQ
   exact ⟨γ',P3,N1.trans N3⟩
  | some w =>
   obtain ⟨id5,g5,o5,vs5,y1,y2,y3,y4,P2,N2,_⟩:=P1.put a1 q1 hp
   simp -implicitDefEqProofs (disch:=first|exact dz _|fail) only [↓AM.R0,AM.R1,AM.R2,qA,qB,qC,qD,qE,↓reduceIte,qG,qH,qI,gt,hq,Option.getD,Option.isSome,y1,y3,y4,x1a,x1b,x1d,x2a,x2b,x2d]
   subst hQ
   exact ⟨γ,P2,N1.trans N2⟩
 ·-- 7
  simp only [Int.reduceEq,if_false,if_true,isWhole,isFloat,isMem,isCall,isChan,Int.reduceLE,decide_true,decide_false,Bool.and_true,Bool.true_and,Bool.and_false,Bool.false_and,Bool.or_false,Bool.or_true,Bool.false_or,Bool.true_or,Bool.and_self,Bool.or_self,Bool.false_eq_true,Option.bind_eq_some_iff] at hp
  obtain ⟨wx,hwx,wy,hwy,o,ho',hp⟩:=hp
  obtain ⟨id1,g1,o1,vs1,x1a,x1b,x1c,x1d⟩:=q1.slots.ix (enc:=fun n=>.int .u64 n) hwx
  obtain ⟨id2,g2,o2,vs2,x2a,x2b,x2c,x2d⟩:=q1.slots.ix (enc:=fun n=>.int .u64 n) hwy
  simp -implicitDefEqProofs (disch:=first|exact dz _|fail) only [↓AM.R0,AM.R1,AM.R2,qA,qB,qC,qD,qE,↓reduceIte,qG,qH,qI,gt,hq,x1a,x1b,x1d,x2a,x2b,x2d]
  refine AM.trCall_of (whole _ _ _ _ rfl ho') ?_
  rintro v h3 ⟨rfl,rfl⟩
  cases o with
  | none =>
   simp -implicitDefEqProofs (disch:=first|exact dz _|fail) only [↓AM.R0,AM.R1,AM.R2,qA,qB,qC,qD,qE,↓reduceIte,qG,qH,qI,gt,hq,Option.getD,Option.isSome,x1a,x1b,x1d,x2a,x2b,x2d]
   refine AM.callI_of (panic P1 hp) ?_
   rintro v h3 ⟨γ',P3,N3⟩
   simp -implicitDefEqProofs (disch:=first|exact dz _|fail) only [↓AM.R0,AM.R1,AM.R2,qA,qB,qC,qD,qE,↓reduceIte,qG,qH,qI]
   subst hQ
   exact ⟨γ',P3,N1.trans N3⟩
  | some w =>
   obtain ⟨id5,g5,o5,vs5,y1,y2,y3,y4,P2,N2,_⟩:=P1.put a1 q1 hp
   simp -implicitDefEqProofs (disch:=first|exact dz _|fail) only [↓AM.R0,AM.R1,AM.R2,qA,qB,qC,qD,qE,↓reduceIte,qG,qH,qI,gt,hq,Option.getD,Option.isSome,y1,y3,y4,x1a,x1b,x1d,x2a,x2b,x2d]
   subst hQ
   exact ⟨γ,P2,N1.trans N2⟩
 ·-- 8
  simp only [Int.reduceEq,if_false,if_true,isWhole,isFloat,isMem,isCall,isChan,Int.reduceLE,decide_true,decide_false,Bool.and_true,Bool.true_and,Bool.and_false,Bool.false_and,Bool.or_false,Bool.or_true,Bool.false_or,Bool.true_or,Bool.and_self,Bool.or_self,Bool.false_eq_true,Option.bind_eq_some_iff] at hp
  obtain ⟨wx,hwx,wy,hwy,o,ho',hp⟩:=hp
  obtain ⟨id1,g1,o1,vs1,x1a,x1b,x1c,x1d⟩:=q1.slots.ix (enc:=fun n=>.int .u64 n) hwx
  obtain ⟨id2,g2,o2,vs2,x2a,x2b,x2c,x2d⟩:=q1.slots.ix (enc:=fun n=>.int .u64 n) hwy
  simp -implicitDefEqProofs (disch:=first|exact dz _|fail) only [↓AM.R0,AM.R1,AM.R2,qA,qB,qC,qD,qE,↓reduceIte,qG,qH,qI,gt,hq,x1a,x1b,x1d,x2a,x2b,x2d]
  refine AM.trCall_of (whole _ _ _ _ rfl ho') ?_
  rintro v h3 ⟨rfl,rfl⟩
  cases o with
  | none =>
   simp -implicitDefEqProofs (disch:=first|exact dz _|fail) only [↓AM.R0,AM.R1,AM.R2,qA,qB,qC,qD,qE,↓reduceIte,qG,qH,qI,gt,hq,Option.getD,Option.isSome,x1a,x1b,x1d,x2a,x2b,x2d]
   refine AM.callI_of (panic P1 hp) ?_
   rintro v h3 ⟨γ',P3,N3⟩
   simp -implicitDefEqProofs (disch:=first|exact dz _|fail) only [↓AM.R0,AM.R1,AM.R2,qA,qB,qC,qD,qE,↓reduceIte,qG,qH,qI]
   subst hQ
   exact ⟨γ',P3,N1.trans N3⟩
  | some w =>
   obtain ⟨id5,g5,o5,vs5,y1,y2,y3,y4,P2,N2,_⟩:=P1.put a1 q1 hp
   simp -implicitDefEqProofs (disch:=first|exact dz _|fail) only [↓AM.R0,AM.R1,AM.R2,qA,qB,qC,qD,qE,↓reduceIte,qG,qH,qI,gt,hq,Option.getD,Option.isSome,y1,y3,y4,x1a,x1b,x1d,x2a,x2b,x2d]
   subst hQ
   exact ⟨γ,P2,N1.trans N2⟩
 ·-- 9
  simp only [Int.reduceEq,if_false,if_true,isWhole,isFloat,isMem,isCall,isChan,Int.reduceLE,decide_true,decide_false,Bool.and_true,Bool.true_and,Bool.and_false,Bool.false_and,Bool.or_false,Bool.or_true,Bool.false_or,Bool.true_or,Bool.and_self,Bool.or_self,Bool.false_eq_true,Option.bind_eq_some_iff] at hp
  obtain ⟨wx,hwx,wy,hwy,o,ho',hp⟩:=hp
  obtain ⟨id1,g1,o1,vs1,x1a,x1b,x1c,x1d⟩:=q1.slots.ix (enc:=fun n=>.int .u64 n) hwx
  obtain ⟨id2,g2,o2,vs2,x2a,x2b,x2c,x2d⟩:=q1.slots.ix (enc:=fun n=>.int .u64 n) hwy
  simp -implicitDefEqProofs (disch:=first|exact dz _|fail) only [↓AM.R0,AM.R1,AM.R2,qA,qB,qC,qD,qE,↓reduceIte,qG,qH,qI,gt,hq,x1a,x1b,x1d,x2a,x2b,x2d]
  refine AM.trCall_of (whole _ _ _ _ rfl ho') ?_
  rintro v h3 ⟨rfl,rfl⟩
  cases o with
  | none =>
   simp -implicitDefEqProofs (disch:=first|exact dz _|fail) only [↓AM.R0,AM.R1,AM.R2,qA,qB,qC,qD,qE,↓reduceIte,qG,qH,qI,gt,hq,Option.getD,Option.isSome,x1a,x1b,x1d,x2a,x2b,x2d]
   refine AM.callI_of (panic P1 hp) ?_
   rintro v h3 ⟨γ',P3,N3⟩
   simp -implicitDefEqProofs (disch:=first|exact dz _|fail) only [↓AM.R0,AM.R1,AM.R2,qA,qB,qC,qD,qE,↓reduceIte,qG,qH,qI]
   subst hQ
   exact ⟨γ',P3,N1.trans N3⟩
  | some w =>
   obtain ⟨id5,g5,o5,vs5,y1,y2,y3,y4,P2,N2,_⟩:=P1.put a1 q1 hp
   simp -implicitDefEqProofs (disch:=first|exact dz _|fail) only [↓AM.R0,AM.R1,AM.R2,qA,qB,qC,qD,qE,↓reduceIte,qG,qH,qI,gt,hq,Option.getD,Option.isSome,y1,y3,y4,x1a,x1b,x1d,x2a,x2b,x2d]
   subst hQ
   exact ⟨γ,P2,N1.trans N2⟩
 ·-- 10
  simp only [Int.reduceEq,if_false,if_true,isWhole,isFloat,isMem,isCall,isChan,Int.reduceLE,decide_true,decide_false,Bool.and_true,Bool.true_and,Bool.and_false,Bool.false_and,Bool.or_false,Bool.or_true,Bool.false_or,Bool.true_or,Bool.and_self,Bool.or_self,Bool.false_eq_true,Option.bind_eq_some_iff] at hp
  obtain ⟨wx,hwx,wy,hwy,o,ho',hp⟩:=hp
  obtain ⟨id1,g1,o1,vs1,x1a,x1b,x1c,x1d⟩:=q1.slots.ix (enc:=fun n=>.int .u64 n) hwx
  obtain ⟨id2,g2,o2,vs2,x2a,x2b,x2c,x2d⟩:=q1.slots.ix (enc:=fun n=>.int .u64 n) hwy
  simp -implicitDefEqProofs (disch:=first|exact dz _|fail) only [↓AM.R0,AM.R1,AM.R2,qA,qB,qC,qD,qE,↓reduceIte,qG,qH,qI,gt,hq,x1a,x1b,x1d,x2a,x2b,x2d]
  refine AM.trCall_of (whole _ _ _ _ rfl ho') ?_
  rintro v h3 ⟨rfl,rfl⟩
  cases o with
  | none =>
   simp -implicitDefEqProofs (disch:=first|exact dz _|fail) only [↓AM.R0,AM.R1,AM.R2,qA,qB,qC,qD,qE,↓reduceIte,qG,qH,qI,gt,hq,Option.getD,Option.isSome,x1a,x1b,x1d,x2a,x2b,x2d]
   refine AM.callI_of (panic P1 hp) ?_
   rintro v h3 ⟨γ',P3,N3⟩
   simp -implicitDefEqProofs (disch:=first|exact dz _|fail) only [↓AM.R0,AM.R1,AM.R2,qA,qB,qC,qD,qE,↓reduceIte,qG,qH,qI]
   subst hQ
   exact ⟨γ',P3,N1.trans N3⟩
  | some w =>
   obtain ⟨id5,g5,o5,vs5,y1,y2,y3,y4,P2,N2,_⟩:=P1.put a1 q1 hp
   simp -implicitDefEqProofs (disch:=first|exact dz _|fail) only [↓AM.R0,AM.R1,AM.R2,qA,qB,qC,qD,qE,↓reduceIte,qG,qH,qI,gt,hq,Option.getD,Option.isSome,y1,y3,y4,x1a,x1b,x1d,x2a,x2b,x2d]
   subst hQ
   exact ⟨γ,P2,N1.trans N2⟩
 ·-- 11
  simp only [Int.reduceEq,if_false,if_true,isWhole,isFloat,isMem,isCall,isChan,Int.reduceLE,decide_true,decide_false,Bool.and_true,Bool.true_and,Bool.and_false,Bool.false_and,Bool.or_false,Bool.or_true,Bool.false_or,Bool.true_or,Bool.and_self,Bool.or_self,Bool.false_eq_true,Option.bind_eq_some_iff] at hp
  obtain ⟨wx,hwx,wy,hwy,o,ho',hp⟩:=hp
  obtain ⟨id1,g1,o1,vs1,x1a,x1b,x1c,x1d⟩:=q1.slots.ix (enc:=fun n=>.int .u64 n) hwx
  obtain ⟨id2,g2,o2,vs2,x2a,x2b,x2c,x2d⟩:=q1.slots.ix (enc:=fun n=>.int .u64 n) hwy
  simp -implicitDefEqProofs (disch:=first|exact dz _|fail) only [↓AM.R0,AM.R1,AM.R2,qA,qB,qC,qD,qE,↓reduceIte,qG,qH,qI,gt,hq,x1a,x1b,x1d,x2a,x2b,x2d]
  refine AM.trCall_of (whole _ _ _ _ rfl ho') ?_
  rintro v h3 ⟨rfl,rfl⟩
  cases o with
  | none =>
   simp -implicitDefEqProofs (disch:=first|exact dz _|fail) only [↓AM.R0,AM.R1,AM.R2,qA,qB,qC,qD,qE,↓reduceIte,qG,qH,qI,gt,hq,Option.getD,Option.isSome,x1a,x1b,x1d,x2a,x2b,x2d]
   refine AM.callI_of (panic P1 hp) ?_
   rintro v h3 ⟨γ',P3,N3⟩
   simp -implicitDefEqProofs (disch:=first|exact dz _|fail) only [↓AM.R0,AM.R1,AM.R2,qA,qB,qC,qD,qE,↓reduceIte,qG,qH,qI]
   subst hQ
   exact ⟨γ',P3,N1.trans N3⟩
  | some w =>
   obtain ⟨id5,g5,o5,vs5,y1,y2,y3,y4,P2,N2,_⟩:=P1.put a1 q1 hp
   simp -implicitDefEqProofs (disch:=first|exact dz _|fail) only [↓AM.R0,AM.R1,AM.R2,qA,qB,qC,qD,qE,↓reduceIte,qG,qH,qI,gt,hq,Option.getD,Option.isSome,y1,y3,y4,x1a,x1b,x1d,x2a,x2b,x2d]
   subst hQ
   exact ⟨γ,P2,N1.trans N2⟩
 ·-- 12
  simp only [Int.reduceEq,if_false,if_true,isWhole,isFloat,isMem,isCall,isChan,Int.reduceLE,decide_true,decide_false,Bool.and_true,Bool.true_and,Bool.and_false,Bool.false_and,Bool.or_false,Bool.or_true,Bool.false_or,Bool.true_or,Bool.and_self,Bool.or_self,Bool.false_eq_true,Option.bind_eq_some_iff] at hp
  obtain ⟨wx,hwx,wy,hwy,o,ho',hp⟩:=hp
  obtain ⟨id1,g1,o1,vs1,x1a,x1b,x1c,x1d⟩:=q1.slots.ix (enc:=fun n=>.int .u64 n) hwx
  obtain ⟨id2,g2,o2,vs2,x2a,x2b,x2c,x2d⟩:=q1.slots.ix (enc:=fun n=>.int .u64 n) hwy
  simp -implicitDefEqProofs (disch:=first|exact dz _|fail) only [↓AM.R0,AM.R1,AM.R2,qA,qB,qC,qD,qE,↓reduceIte,qG,qH,qI,gt,hq,x1a,x1b,x1d,x2a,x2b,x2d]
  refine AM.trCall_of (whole _ _ _ _ rfl ho') ?_
  rintro v h3 ⟨rfl,rfl⟩
  cases o with
  | none =>
   simp -implicitDefEqProofs (disch:=first|exact dz _|fail) only [↓AM.R0,AM.R1,AM.R2,qA,qB,qC,qD,qE,↓reduceIte,qG,qH,qI,gt,hq,Option.getD,Option.isSome,x1a,x1b,x1d,x2a,x2b,x2d]
   refine AM.callI_of (panic P1 hp) ?_
   rintro v h3 ⟨γ',P3,N3⟩
   simp -implicitDefEqProofs (disch:=first|exact dz _|fail) only [↓AM.R0,AM.R1,AM.R2,qA,qB,qC,qD,qE,↓reduceIte,qG,qH,qI]
   subst hQ
   exact ⟨γ',P3,N1.trans N3⟩
  | some w =>
   obtain ⟨id5,g5,o5,vs5,y1,y2,y3,y4,P2,N2,_⟩:=P1.put a1 q1 hp
   simp -implicitDefEqProofs (disch:=first|exact dz _|fail) only [↓AM.R0,AM.R1,AM.R2,qA,qB,qC,qD,qE,↓reduceIte,qG,qH,qI,gt,hq,Option.getD,Option.isSome,y1,y3,y4,x1a,x1b,x1d,x2a,x2b,x2d]
   subst hQ
   exact ⟨γ,P2,N1.trans N2⟩
 ·-- 13
  simp only [Int.reduceEq,if_false,if_true,isWhole,isFloat,isMem,isCall,isChan,Int.reduceLE,decide_true,decide_false,Bool.and_true,Bool.true_and,Bool.and_false,Bool.false_and,Bool.or_false,Bool.or_true,Bool.false_or,Bool.true_or,Bool.and_self,Bool.or_self,Bool.false_eq_true,Option.bind_eq_some_iff] at hp
  obtain ⟨wx,hwx,wy,hwy,o,ho',hp⟩:=hp
  obtain ⟨id1,g1,o1,vs1,x1a,x1b,x1c,x1d⟩:=q1.slots.ix (enc:=fun n=>.int .u64 n) hwx
  obtain ⟨id2,g2,o2,vs2,x2a,x2b,x2c,x2d⟩:=q1.slots.ix (enc:=fun n=>.int .u64 n) hwy
  simp -implicitDefEqProofs (disch:=first|exact dz _|fail) only [↓AM.R0,AM.R1,AM.R2,qA,qB,qC,qD,qE,↓reduceIte,qG,qH,qI,gt,hq,x1a,x1b,x1d,x2a,x2b,x2d]
  refine AM.trCall_of (whole _ _ _ _ rfl ho') ?_
  rintro v h3 ⟨rfl,rfl⟩
  cases o with
  | none =>
   simp -implicitDefEqProofs (disch:=first|exact dz _|fail) only [↓AM.R0,AM.R1,AM.R2,qA,qB,qC,qD,qE,↓reduceIte,qG,qH,qI,gt,hq,Option.getD,Option.isSome,x1a,x1b,x1d,x2a,x2b,x2d]
   refine AM.callI_of (panic P1 hp) ?_
   rintro v h3 ⟨γ',P3,N3⟩
   simp -implicitDefEqProofs (disch:=first|exact dz _|fail) only [↓AM.R0,AM.R1,AM.R2,qA,qB,qC,qD,qE,↓reduceIte,qG,qH,qI]
   subst hQ
   exact ⟨γ',P3,N1.trans N3⟩
  | some w =>
   obtain ⟨id5,g5,o5,vs5,y1,y2,y3,y4,P2,N2,_⟩:=P1.put a1 q1 hp
   simp -implicitDefEqProofs (disch:=first|exact dz _|fail) only [↓AM.R0,AM.R1,AM.R2,qA,qB,qC,qD,qE,↓reduceIte,qG,qH,qI,gt,hq,Option.getD,Option.isSome,y1,y3,y4,x1a,x1b,x1d,x2a,x2b,x2d]
   subst hQ
   exact ⟨γ,P2,N1.trans N2⟩
 ·-- 14
  simp only [Int.reduceEq,if_false,if_true,isWhole,isFloat,isMem,isCall,isChan,Int.reduceLE,decide_true,decide_false,Bool.and_true,Bool.true_and,Bool.and_false,Bool.false_and,Bool.or_false,Bool.or_true,Bool.false_or,Bool.true_or,Bool.and_self,Bool.or_self,Bool.false_eq_true,Option.bind_eq_some_iff] at hp
  obtain ⟨wx,hwx,wy,hwy,o,ho',hp⟩:=hp
  obtain ⟨id1,g1,o1,vs1,x1a,x1b,x1c,x1d⟩:=q1.slots.ix (enc:=fun n=>.int .u64 n) hwx
  obtain ⟨id2,g2,o2,vs2,x2a,x2b,x2c,x2d⟩:=q1.slots.ix (enc:=fun n=>.int .u64 n) hwy
  simp -implicitDefEqProofs (disch:=first|exact dz _|fail) only [↓AM.R0,AM.R1,AM.R2,qA,qB,qC,qD,qE,↓reduceIte,qG,qH,qI,gt,hq,x1a,x1b,x1d,x2a,x2b,x2d]
  refine AM.trCall_of (whole _ _ _ _ rfl ho') ?_
  rintro v h3 ⟨rfl,rfl⟩
  cases o with
  | none =>
   simp -implicitDefEqProofs (disch:=first|exact dz _|fail) only [↓AM.R0,AM.R1,AM.R2,qA,qB,qC,qD,qE,↓reduceIte,qG,qH,qI,gt,hq,Option.getD,Option.isSome,x1a,x1b,x1d,x2a,x2b,x2d]
   refine AM.callI_of (panic P1 hp) ?_
   rintro v h3 ⟨γ',P3,N3⟩
   simp -implicitDefEqProofs (disch:=first|exact dz _|fail) only [↓AM.R0,AM.R1,AM.R2,qA,qB,qC,qD,qE,↓reduceIte,qG,qH,qI]
   subst hQ
   exact ⟨γ',P3,N1.trans N3⟩
  | some w =>
   obtain ⟨id5,g5,o5,vs5,y1,y2,y3,y4,P2,N2,_⟩:=P1.put a1 q1 hp
   simp -implicitDefEqProofs (disch:=first|exact dz _|fail) only [↓AM.R0,AM.R1,AM.R2,qA,qB,qC,qD,qE,↓reduceIte,qG,qH,qI,gt,hq,Option.getD,Option.isSome,y1,y3,y4,x1a,x1b,x1d,x2a,x2b,x2d]
   subst hQ
   exact ⟨γ,P2,N1.trans N2⟩
 ·-- 23
  simp only [Int.reduceEq,if_false,if_true,isWhole,isFloat,isMem,isCall,isChan,Int.reduceLE,decide_true,decide_false,Bool.and_true,Bool.true_and,Bool.and_false,Bool.false_and,Bool.or_false,Bool.or_true,Bool.false_or,Bool.true_or,Bool.and_self,Bool.or_self,Bool.false_eq_true,Option.bind_eq_some_iff] at hp
  obtain ⟨wx,hwx,wy,hwy,o,ho',hp⟩:=hp
  obtain ⟨id1,g1,o1,vs1,x1a,x1b,x1c,x1d⟩:=q1.slots.ix (enc:=fun n=>.int .u64 n) hwx
  obtain ⟨id2,g2,o2,vs2,x2a,x2b,x2c,x2d⟩:=q1.slots.ix (enc:=fun n=>.int .u64 n) hwy
  simp -implicitDefEqProofs (disch:=first|exact dz _|fail) only [↓AM.R0,AM.R1,AM.R2,qA,qB,qC,qD,qE,↓reduceIte,qG,qH,qI,gt,hq,x1a,x1b,x1d,x2a,x2b,x2d]
  refine AM.trCall_of (whole _ _ _ _ rfl ho') ?_
  rintro v h3 ⟨rfl,rfl⟩
  cases o with
  | none =>
   simp -implicitDefEqProofs (disch:=first|exact dz _|fail) only [↓AM.R0,AM.R1,AM.R2,qA,qB,qC,qD,qE,↓reduceIte,qG,qH,qI,gt,hq,Option.getD,Option.isSome,x1a,x1b,x1d,x2a,x2b,x2d]
   refine AM.callI_of (panic P1 hp) ?_
   rintro v h3 ⟨γ',P3,N3⟩
   simp -implicitDefEqProofs (disch:=first|exact dz _|fail) only [↓AM.R0,AM.R1,AM.R2,qA,qB,qC,qD,qE,↓reduceIte,qG,qH,qI]
   subst hQ
   exact ⟨γ',P3,N1.trans N3⟩
  | some w =>
   obtain ⟨id5,g5,o5,vs5,y1,y2,y3,y4,P2,N2,_⟩:=P1.put a1 q1 hp
   simp -implicitDefEqProofs (disch:=first|exact dz _|fail) only [↓AM.R0,AM.R1,AM.R2,qA,qB,qC,qD,qE,↓reduceIte,qG,qH,qI,gt,hq,Option.getD,Option.isSome,y1,y3,y4,x1a,x1b,x1d,x2a,x2b,x2d]
   subst hQ
   exact ⟨γ,P2,N1.trans N2⟩
end
end Go.Proofs.Ytnbnpjhlflcjeaa.Id
namespace Go.Proofs.Ytnbnpjhlflcjeaa.Id
open Go Go.AM Go.Proofs.Ytnbnpjhlflcjeaa.AmGB
open Nat renaming reduceAdd → qA,reduceLeDiff → qB,reduceEqDiff → qC,reduceLT → qE
open Int renaming reduceToNat → qD,reduceEq → qG,reduceLT → qH,reduceLE → qI
section
variable {h0 h h':AHeap} {K:Nat→Tag} {γ:GI} {R:Run}
set_option maxHeartbeats 40000000 in
theorem exec3 (P:RunP h γ R) {k j i:Nat} {r:Routine} {f:Frame} {x:Nat×List Nat} (a:At h γ R k j r f x i) {sv iv lv vv fv:AVal} {la:List (Int×AVal)} (s:RtV h γ.K k x.1 x.2 r fv) (q:FrV h γ.K k j i f sv iv lv vv la) {z:PIns} {zv:AVal} (hz:Ro h γ.K fun h=>SlRd h 1 encK zv z.list) {choice:Int} {R':Run} (hp:R.execute k j z choice=some R') (hm:z.op=26∨z.op=27∨z.op=28∨z.op=29∨z.op=30∨z.op=31∨z.op=32∨z.op=33∨z.op=34∨z.op=35∨z.op=36∨z.op=37∨z.op=38∨z.op=39∨z.op=40∨z.op=41∨z.op=42∨z.op=43∨z.op=44∨z.op=45) :
  CallP AP 39 [.ptr γ.d 0 0,.ptr x.1 0 0,.ptr i 0 0,.agg (rowI z zv),.int .u64 choice] h fun v h'=>∃ γ',RunP h' γ' R'∧Nxt h h' γ γ':=by
 refine callP (rfl:Tr.get AP 39=some A39) ?_
 generalize hQ:(fun (r:AVal) (h':AHeap)=>_)=Q
 have c1:=(Chg.refl (fun _=>False) h γ.K).push (.cells 0 false (rowI z zv))
 have N1:=Nxt.tmp c1
 have P1:=P.tmp c1
 have q1:=q.keep c1 (fun q=>q) (fun q=>q) (fun q=>q) (fun q=>q)
 have r1:=s.keep c1 (fun q=>q) (fun q=>q) (fun q=>q) (fun k=>⟨fun q=>q,fun q=>q,fun q=>q⟩)
 have z1:=hz.keep c1 (fun q=>q)
 have ho:=P1.obj
 have hlt:=P1.ltd
 have kn:=P.kn
 have gt:(h.push (.cells 0 false (rowI z zv))).get h.n=.cells 0 false (rowI z zv):=AHeap.get_push_same _ _
 have lt:h.n<(h.push (.cells 0 false (rowI z zv))).n:=by simp
 have zc:=hz.now.cells
 have zb:=hz.now.beq
 simp -implicitDefEqProofs (disch:=first|exact dz _|fail) only [↓AM.R0,AM.R1,AM.R2,qA,qB,qC,qD,qE,↓reduceIte,qG,qH,qI,rowI,zc.2]
 generalize (h.push (.cells 0 false (rowI z zv)))=h1 at *
 generalize h.n=t at *
 have a1:At h1 γ R k j r f x i:=⟨a.hr,a.hf,a.hx,a.hi⟩
 have hq:=q1.obj
 have hqlt:=q1.lt
 have hro:=r1.obj
 have hrlt:=r1.lt
 have sb:=q1.slots.beq
 have ne:t≠i:=fun e=>by have:=q1.kid;rw [←e,kn] at this;cases this
 obtain ⟨op,za,zzb,zzc,imm,list⟩:=z
 simp only [rowI] at gt hp hm z1 ⊢
 unfold Run.execute at hp
 rw [a.hr] at hp
 simp only [Option.bind_some,a.hf] at hp
 rcases hm with rfl | rfl | rfl | rfl | rfl | rfl | rfl | rfl | rfl | rfl | rfl | rfl | rfl | rfl | rfl | rfl | rfl | rfl | rfl | rfl
 ·-- 26
  simp only [Int.reduceEq,if_false,if_true,isWhole,isFloat,isMem,isCall,isChan,Int.reduceLE,decide_true,decide_false,Bool.and_true,Bool.true_and,Bool.and_false,Bool.false_and,Bool.or_false,Bool.or_true,Bool.false_or,Bool.true_or,Bool.and_self,Bool.or_self,Bool.false_eq_true] at hp
  simp -implicitDefEqProofs (disch:=first|exact dz _|fail) only [↓AM.R0,AM.R1,AM.R2,qA,qB,qC,qD,qE,↓reduceIte,qG,qH,qI,gt,hq]
  refine AM.callI_of (memory P1 a1 q1 z1 rfl hp) ?_
  rintro v h3 ⟨γ',P3,N3⟩
  simp -implicitDefEqProofs (disch:=first|exact dz _|fail) only [↓AM.R0,AM.R1,AM.R2,qA,qB,qC,qD,qE,↓reduceIte,qG,qH,qI]
  subst hQ
  exact ⟨γ',P3,N1.trans N3⟩
 ·-- 27
  simp only [Int.reduceEq,if_false,if_true,isWhole,isFloat,isMem,isCall,isChan,Int.reduceLE,decide_true,decide_false,Bool.and_true,Bool.true_and,Bool.and_false,Bool.false_and,Bool.or_false,Bool.or_true,Bool.false_or,Bool.true_or,Bool.and_self,Bool.or_self,Bool.false_eq_true] at hp
  simp -implicitDefEqProofs (disch:=first|exact dz _|fail) only [↓AM.R0,AM.R1,AM.R2,qA,qB,qC,qD,qE,↓reduceIte,qG,qH,qI,gt,hq]
  refine AM.callI_of (memory P1 a1 q1 z1 rfl hp) ?_
  rintro v h3 ⟨γ',P3,N3⟩
  simp -implicitDefEqProofs (disch:=first|exact dz _|fail) only [↓AM.R0,AM.R1,AM.R2,qA,qB,qC,qD,qE,↓reduceIte,qG,qH,qI]
  subst hQ
  exact ⟨γ',P3,N1.trans N3⟩
 ·-- 28
  simp only [Int.reduceEq,if_false,if_true,isWhole,isFloat,isMem,isCall,isChan,Int.reduceLE,decide_true,decide_false,Bool.and_true,Bool.true_and,Bool.and_false,Bool.false_and,Bool.or_false,Bool.or_true,Bool.false_or,Bool.true_or,Bool.and_self,Bool.or_self,Bool.false_eq_true] at hp
  simp -implicitDefEqProofs (disch:=first|exact dz _|fail) only [↓AM.R0,AM.R1,AM.R2,qA,qB,qC,qD,qE,↓reduceIte,qG,qH,qI,gt,hq]
  refine AM.callI_of (memory P1 a1 q1 z1 rfl hp) ?_
  rintro v h3 ⟨γ',P3,N3⟩
  simp -implicitDefEqProofs (disch:=first|exact dz _|fail) only [↓AM.R0,AM.R1,AM.R2,qA,qB,qC,qD,qE,↓reduceIte,qG,qH,qI]
  subst hQ
  exact ⟨γ',P3,N1.trans N3⟩
 ·-- 29
  simp only [Int.reduceEq,if_false,if_true,isWhole,isFloat,isMem,isCall,isChan,Int.reduceLE,decide_true,decide_false,Bool.and_true,Bool.true_and,Bool.and_false,Bool.false_and,Bool.or_false,Bool.or_true,Bool.false_or,Bool.true_or,Bool.and_self,Bool.or_self,Bool.false_eq_true] at hp
  simp -implicitDefEqProofs (disch:=first|exact dz _|fail) only [↓AM.R0,AM.R1,AM.R2,qA,qB,qC,qD,qE,↓reduceIte,qG,qH,qI,gt,hq]
  refine AM.callI_of (memory P1 a1 q1 z1 rfl hp) ?_
  rintro v h3 ⟨γ',P3,N3⟩
  simp -implicitDefEqProofs (disch:=first|exact dz _|fail) only [↓AM.R0,AM.R1,AM.R2,qA,qB,qC,qD,qE,↓reduceIte,qG,qH,qI]
  subst hQ
  exact ⟨γ',P3,N1.trans N3⟩
 ·-- 30
  simp only [Int.reduceEq,if_false,if_true,isWhole,isFloat,isMem,isCall,isChan,Int.reduceLE,decide_true,decide_false,Bool.and_true,Bool.true_and,Bool.and_false,Bool.false_and,Bool.or_false,Bool.or_true,Bool.false_or,Bool.true_or,Bool.and_self,Bool.or_self,Bool.false_eq_true] at hp
  simp -implicitDefEqProofs (disch:=first|exact dz _|fail) only [↓AM.R0,AM.R1,AM.R2,qA,qB,qC,qD,qE,↓reduceIte,qG,qH,qI,gt,hq]
  refine AM.callI_of (memory P1 a1 q1 z1 rfl hp) ?_
  rintro v h3 ⟨γ',P3,N3⟩
  simp -implicitDefEqProofs (disch:=first|exact dz _|fail) only [↓AM.R0,AM.R1,AM.R2,qA,qB,qC,qD,qE,↓reduceIte,qG,qH,qI]
  subst hQ
  exact ⟨γ',P3,N1.trans N3⟩
 ·-- 31
  simp only [Int.reduceEq,if_false,if_true,isWhole,isFloat,isMem,isCall,isChan,Int.reduceLE,decide_true,decide_false,Bool.and_true,Bool.true_and,Bool.and_false,Bool.false_and,Bool.or_false,Bool.or_true,Bool.false_or,Bool.true_or,Bool.and_self,Bool.or_self,Bool.false_eq_true] at hp
  simp -implicitDefEqProofs (disch:=first|exact dz _|fail) only [↓AM.R0,AM.R1,AM.R2,qA,qB,qC,qD,qE,↓reduceIte,qG,qH,qI,gt,hq]
  refine AM.callI_of (memory P1 a1 q1 z1 rfl hp) ?_
  rintro v h3 ⟨γ',P3,N3⟩
  simp -implicitDefEqProofs (disch:=first|exact dz _|fail) only [↓AM.R0,AM.R1,AM.R2,qA,qB,qC,qD,qE,↓reduceIte,qG,qH,qI]
  subst hQ
  exact ⟨γ',P3,N1.trans N3⟩
 ·-- 32
  simp only [Int.reduceEq,if_false,if_true,isWhole,isFloat,isMem,isCall,isChan,Int.reduceLE,decide_true,decide_false,Bool.and_true,Bool.true_and,Bool.and_false,Bool.false_and,Bool.or_false,Bool.or_true,Bool.false_or,Bool.true_or,Bool.and_self,Bool.or_self,Bool.false_eq_true] at hp
  simp -implicitDefEqProofs (disch:=first|exact dz _|fail) only [↓AM.R0,AM.R1,AM.R2,qA,qB,qC,qD,qE,↓reduceIte,qG,qH,qI,gt,hq]
  refine AM.callI_of (memory P1 a1 q1 z1 rfl hp) ?_
  rintro v h3 ⟨γ',P3,N3⟩
  simp -implicitDefEqProofs (disch:=first|exact dz _|fail) only [↓AM.R0,AM.R1,AM.R2,qA,qB,qC,qD,qE,↓reduceIte,qG,qH,qI]
  subst hQ
  exact ⟨γ',P3,N1.trans N3⟩
 ·-- 33
  simp only [Int.reduceEq,if_false,if_true,isWhole,isFloat,isMem,isCall,isChan,Int.reduceLE,decide_true,decide_false,Bool.and_true,Bool.true_and,Bool.and_false,Bool.false_and,Bool.or_false,Bool.or_true,Bool.false_or,Bool.true_or,Bool.and_self,Bool.or_self,Bool.false_eq_true] at hp
  simp -implicitDefEqProofs (disch:=first|exact dz _|fail) only [↓AM.R0,AM.R1,AM.R2,qA,qB,qC,qD,qE,↓reduceIte,qG,qH,qI,gt,hq]
  refine AM.callI_of (memory P1 a1 q1 z1 rfl hp) ?_
  rintro v h3 ⟨γ',P3,N3⟩
  simp -implicitDefEqProofs (disch:=first|exact dz _|fail) only [↓AM.R0,AM.R1,AM.R2,qA,qB,qC,qD,qE,↓reduceIte,qG,qH,qI]
  subst hQ
  exact ⟨γ',P3,N1.trans N3⟩
 ·-- 34
  simp only [Int.reduceEq,if_false,if_true,isWhole,isFloat,isMem,isCall,isChan,Int.reduceLE,decide_true,decide_false,Bool.and_true,Bool.true_and,Bool.and_false,Bool.false_and,Bool.or_false,Bool.or_true,Bool.false_or,Bool.true_or,Bool.and_self,Bool.or_self,Bool.false_eq_true] at hp
  simp -implicitDefEqProofs (disch:=first|exact dz _|fail) only [↓AM.R0,AM.R1,AM.R2,qA,qB,qC,qD,qE,↓reduceIte,qG,qH,qI,gt,hq]
  refine AM.callI_of (memory P1 a1 q1 z1 rfl hp) ?_
  rintro v h3 ⟨γ',P3,N3⟩
  simp -implicitDefEqProofs (disch:=first|exact dz _|fail) only [↓AM.R0,AM.R1,AM.R2,qA,qB,qC,qD,qE,↓reduceIte,qG,qH,qI]
  subst hQ
  exact ⟨γ',P3,N1.trans N3⟩
 ·-- 35
  simp only [Int.reduceEq,if_false,if_true,isWhole,isFloat,isMem,isCall,isChan,Int.reduceLE,decide_true,decide_false,Bool.and_true,Bool.true_and,Bool.and_false,Bool.false_and,Bool.or_false,Bool.or_true,Bool.false_or,Bool.true_or,Bool.and_self,Bool.or_self,Bool.false_eq_true] at hp
  simp -implicitDefEqProofs (disch:=first|exact dz _|fail) only [↓AM.R0,AM.R1,AM.R2,qA,qB,qC,qD,qE,↓reduceIte,qG,qH,qI,gt,hq]
  refine AM.callI_of (calls P1 a1 r1 q1 z1 rfl hp) ?_
  rintro v h3 ⟨γ',P3,N3⟩
  simp -implicitDefEqProofs (disch:=first|exact dz _|fail) only [↓AM.R0,AM.R1,AM.R2,qA,qB,qC,qD,qE,↓reduceIte,qG,qH,qI]
  subst hQ
  exact ⟨γ',P3,N1.trans N3⟩
 ·-- 36
  simp only [Int.reduceEq,if_false,if_true,isWhole,isFloat,isMem,isCall,isChan,Int.reduceLE,decide_true,decide_false,Bool.and_true,Bool.true_and,Bool.and_false,Bool.false_and,Bool.or_false,Bool.or_true,Bool.false_or,Bool.true_or,Bool.and_self,Bool.or_self,Bool.false_eq_true] at hp
  simp -implicitDefEqProofs (disch:=first|exact dz _|fail) only [↓AM.R0,AM.R1,AM.R2,qA,qB,qC,qD,qE,↓reduceIte,qG,qH,qI,gt,hq]
  refine AM.callI_of (calls P1 a1 r1 q1 z1 rfl hp) ?_
  rintro v h3 ⟨γ',P3,N3⟩
  simp -implicitDefEqProofs (disch:=first|exact dz _|fail) only [↓AM.R0,AM.R1,AM.R2,qA,qB,qC,qD,qE,↓reduceIte,qG,qH,qI]
  subst hQ
  exact ⟨γ',P3,N1.trans N3⟩
 ·-- 37
  simp only [Int.reduceEq,if_false,if_true,isWhole,isFloat,isMem,isCall,isChan,Int.reduceLE,decide_true,decide_false,Bool.and_true,Bool.true_and,Bool.and_false,Bool.false_and,Bool.or_false,Bool.or_true,Bool.false_or,Bool.true_or,Bool.and_self,Bool.or_self,Bool.false_eq_true] at hp
  simp -implicitDefEqProofs (disch:=first|exact dz _|fail) only [↓AM.R0,AM.R1,AM.R2,qA,qB,qC,qD,qE,↓reduceIte,qG,qH,qI,gt,hq]
  refine AM.callI_of (calls P1 a1 r1 q1 z1 rfl hp) ?_
  rintro v h3 ⟨γ',P3,N3⟩
  simp -implicitDefEqProofs (disch:=first|exact dz _|fail) only [↓AM.R0,AM.R1,AM.R2,qA,qB,qC,qD,qE,↓reduceIte,qG,qH,qI]
  subst hQ
  exact ⟨γ',P3,N1.trans N3⟩
 ·-- 38
  simp only [Int.reduceEq,if_false,if_true,isWhole,isFloat,isMem,isCall,isChan,Int.reduceLE,decide_true,decide_false,Bool.and_true,Bool.true_and,Bool.and_false,Bool.false_and,Bool.or_false,Bool.or_true,Bool.false_or,Bool.true_or,Bool.and_self,Bool.or_self,Bool.false_eq_true] at hp
  simp -implicitDefEqProofs (disch:=first|exact dz _|fail) only [↓AM.R0,AM.R1,AM.R2,qA,qB,qC,qD,qE,↓reduceIte,qG,qH,qI,gt,hq]
  refine AM.callI_of (calls P1 a1 r1 q1 z1 rfl hp) ?_
  rintro v h3 ⟨γ',P3,N3⟩
  simp -implicitDefEqProofs (disch:=first|exact dz _|fail) only [↓AM.R0,AM.R1,AM.R2,qA,qB,qC,qD,qE,↓reduceIte,qG,qH,qI]
  subst hQ
  exact ⟨γ',P3,N1.trans N3⟩
 ·-- 39
  simp only [Int.reduceEq,if_false,if_true,isWhole,isFloat,isMem,isCall,isChan,Int.reduceLE,decide_true,decide_false,Bool.and_true,Bool.true_and,Bool.and_false,Bool.false_and,Bool.or_false,Bool.or_true,Bool.false_or,Bool.true_or,Bool.and_self,Bool.or_self,Bool.false_eq_true] at hp
  simp -implicitDefEqProofs (disch:=first|exact dz _|fail) only [↓AM.R0,AM.R1,AM.R2,qA,qB,qC,qD,qE,↓reduceIte,qG,qH,qI,gt,hq]
  refine AM.callI_of (calls P1 a1 r1 q1 z1 rfl hp) ?_
  rintro v h3 ⟨γ',P3,N3⟩
  simp -implicitDefEqProofs (disch:=first|exact dz _|fail) only [↓AM.R0,AM.R1,AM.R2,qA,qB,qC,qD,qE,↓reduceIte,qG,qH,qI]
  subst hQ
  exact ⟨γ',P3,N1.trans N3⟩
 ·-- 40
  simp only [Int.reduceEq,if_false,if_true,isWhole,isFloat,isMem,isCall,isChan,Int.reduceLE,decide_true,decide_false,Bool.and_true,Bool.true_and,Bool.and_false,Bool.false_and,Bool.or_false,Bool.or_true,Bool.false_or,Bool.true_or,Bool.and_self,Bool.or_self,Bool.false_eq_true] at hp
  simp -implicitDefEqProofs (disch:=first|exact dz _|fail) only [↓AM.R0,AM.R1,AM.R2,qA,qB,qC,qD,qE,↓reduceIte,qG,qH,qI,gt,hq]
  refine AM.callI_of (calls P1 a1 r1 q1 z1 rfl hp) ?_
  rintro v h3 ⟨γ',P3,N3⟩
  simp -implicitDefEqProofs (disch:=first|exact dz _|fail) only [↓AM.R0,AM.R1,AM.R2,qA,qB,qC,qD,qE,↓reduceIte,qG,qH,qI]
  subst hQ
  exact ⟨γ',P3,N1.trans N3⟩
 ·-- 41
  simp only [Int.reduceEq,if_false,if_true,isWhole,isFloat,isMem,isCall,isChan,Int.reduceLE,decide_true,decide_false,Bool.and_true,Bool.true_and,Bool.and_false,Bool.false_and,Bool.or_false,Bool.or_true,Bool.false_or,Bool.true_or,Bool.and_self,Bool.or_self,Bool.false_eq_true] at hp
  simp -implicitDefEqProofs (disch:=first|exact dz _|fail) only [↓AM.R0,AM.R1,AM.R2,qA,qB,qC,qD,qE,↓reduceIte,qG,qH,qI,gt,hq]
  refine AM.callI_of (iChannels P1 a1 r1 q1 z1 hp) ?_
  rintro v h3 ⟨γ',P3,N3⟩
  simp -implicitDefEqProofs (disch:=first|exact dz _|fail) only [↓AM.R0,AM.R1,AM.R2,qA,qB,qC,qD,qE,↓reduceIte,qG,qH,qI]
  subst hQ
  exact ⟨γ',P3,N1.trans N3⟩
 ·-- 42
  simp only [Int.reduceEq,if_false,if_true,isWhole,isFloat,isMem,isCall,isChan,Int.reduceLE,decide_true,decide_false,Bool.and_true,Bool.true_and,Bool.and_false,Bool.false_and,Bool.or_false,Bool.or_true,Bool.false_or,Bool.true_or,Bool.and_self,Bool.or_self,Bool.false_eq_true] at hp
  simp -implicitDefEqProofs (disch:=first|exact dz _|fail) only [↓AM.R0,AM.R1,AM.R2,qA,qB,qC,qD,qE,↓reduceIte,qG,qH,qI,gt,hq]
  refine AM.callI_of (iChannels P1 a1 r1 q1 z1 hp) ?_
  rintro v h3 ⟨γ',P3,N3⟩
  simp -implicitDefEqProofs (disch:=first|exact dz _|fail) only [↓AM.R0,AM.R1,AM.R2,qA,qB,qC,qD,qE,↓reduceIte,qG,qH,qI]
  subst hQ
  exact ⟨γ',P3,N1.trans N3⟩
 ·-- 43
  simp only [Int.reduceEq,if_false,if_true,isWhole,isFloat,isMem,isCall,isChan,Int.reduceLE,decide_true,decide_false,Bool.and_true,Bool.true_and,Bool.and_false,Bool.false_and,Bool.or_false,Bool.or_true,Bool.false_or,Bool.true_or,Bool.and_self,Bool.or_self,Bool.false_eq_true] at hp
  simp -implicitDefEqProofs (disch:=first|exact dz _|fail) only [↓AM.R0,AM.R1,AM.R2,qA,qB,qC,qD,qE,↓reduceIte,qG,qH,qI,gt,hq]
  refine AM.callI_of (iChannels P1 a1 r1 q1 z1 hp) ?_
  rintro v h3 ⟨γ',P3,N3⟩
  simp -implicitDefEqProofs (disch:=first|exact dz _|fail) only [↓AM.R0,AM.R1,AM.R2,qA,qB,qC,qD,qE,↓reduceIte,qG,qH,qI]
  subst hQ
  exact ⟨γ',P3,N1.trans N3⟩
 ·-- 44
  simp only [Int.reduceEq,if_false,if_true,isWhole,isFloat,isMem,isCall,isChan,Int.reduceLE,decide_true,decide_false,Bool.and_true,Bool.true_and,Bool.and_false,Bool.false_and,Bool.or_false,Bool.or_true,Bool.false_or,Bool.true_or,Bool.and_self,Bool.or_self,Bool.false_eq_true] at hp
  simp -implicitDefEqProofs (disch:=first|exact dz _|fail) only [↓AM.R0,AM.R1,AM.R2,qA,qB,qC,qD,qE,↓reduceIte,qG,qH,qI,gt,hq]
  refine AM.callI_of (iChannels P1 a1 r1 q1 z1 hp) ?_
  rintro v h3 ⟨γ',P3,N3⟩
  simp -implicitDefEqProofs (disch:=first|exact dz _|fail) only [↓AM.R0,AM.R1,AM.R2,qA,qB,qC,qD,qE,↓reduceIte,qG,qH,qI]
  subst hQ
  exact ⟨γ',P3,N1.trans N3⟩
 ·-- 45
  simp only [Int.reduceEq,if_false,if_true,isWhole,isFloat,isMem,isCall,isChan,Int.reduceLE,decide_true,decide_false,Bool.and_true,Bool.true_and,Bool.and_false,Bool.false_and,Bool.or_false,Bool.or_true,Bool.false_or,Bool.true_or,Bool.and_self,Bool.or_self,Bool.false_eq_true] at hp
  simp -implicitDefEqProofs (disch:=first|exact dz _|fail) only [↓AM.R0,AM.R1,AM.R2,qA,qB,qC,qD,qE,↓reduceIte,qG,qH,qI,gt,hq]
  refine AM.callI_of (iChannels P1 a1 r1 q1 z1 hp) ?_
  rintro v h3 ⟨γ',P3,N3⟩
  simp -implicitDefEqProofs (disch:=first|exact dz _|fail) only [↓AM.R0,AM.R1,AM.R2,qA,qB,qC,qD,qE,↓reduceIte,qG,qH,qI]
  subst hQ
  exact ⟨γ',P3,N1.trans N3⟩
end
end Go.Proofs.Ytnbnpjhlflcjeaa.Id
namespace Go.Proofs.Ytnbnpjhlflcjeaa.Id
open Go Go.AM Go.Proofs.Ytnbnpjhlflcjeaa.AmGB
open Nat renaming reduceAdd → qA,reduceLeDiff → qB,reduceEqDiff → qC,reduceLT → qE
open Int renaming reduceToNat → qD,reduceEq → qG,reduceLT → qH,reduceLE → qI
section
variable {h0 h h':AHeap} {K:Nat→Tag} {γ:GI} {R:Run}
theorem exec_cases {k j:Nat} {z:PIns} {choice:Int} {R':Run} (hp:R.execute k j z choice=some R') :
  (z.op=1∨z.op=2∨z.op=24∨z.op=25∨z.op=46∨z.op=47∨z.op=48∨z.op=49∨z.op=50∨z.op=51∨z.op=52) ∨
  (z.op=3∨z.op=4∨z.op=5∨z.op=6∨z.op=7∨z.op=8∨z.op=9∨z.op=10∨z.op=11∨z.op=12∨z.op=13∨z.op=14∨z.op=23) ∨
  (z.op=26∨z.op=27∨z.op=28∨z.op=29∨z.op=30∨z.op=31∨z.op=32∨z.op=33∨z.op=34∨z.op=35∨z.op=36∨z.op=37∨z.op=38∨z.op=39∨z.op=40∨z.op=41∨z.op=42∨z.op=43∨z.op=44∨z.op=45):=by
 have key:(1≤z.op∧z.op≤14)∨(23≤z.op∧z.op≤52):=by
  by_cases c:(1≤z.op∧z.op≤14)∨(23≤z.op∧z.op≤52)
  ·exact c
  ·exfalso
   have w:isWhole z.op=false:=by simp [isWhole];omega
   have m:isMem z.op=false:=by simp [isMem];omega
   have cl:isCall z.op=false:=by simp [isCall];omega
   have ch:isChan z.op=false:=by simp [isChan];omega
   have n:∀ c:Int,((1≤c∧c≤14)∨(23≤c∧c≤52))→¬ z.op=c:=fun q hq e=>c (by omega)
   unfold Run.execute at hp
   simp [w,m,cl,ch,n 1 (by omega),n 2 (by omega),n 24 (by omega),n 25 (by omega),n 46 (by omega),n 47 (by omega),n 48 (by omega),n 49 (by omega),n 50 (by omega),n 51 (by omega),n 52 (by omega)] at hp
 omega
theorem execute (P:RunP h γ R) {k j i:Nat} {r:Routine} {f:Frame} {x:Nat×List Nat} (a:At h γ R k j r f x i) {sv iv lv vv fv:AVal} {la:List (Int×AVal)} (s:RtV h γ.K k x.1 x.2 r fv) (q:FrV h γ.K k j i f sv iv lv vv la) {z:PIns} {zv:AVal} (hz:Ro h γ.K fun h=>SlRd h 1 encK zv z.list) {choice:Int} {R':Run} (hp:R.execute k j z choice=some R') :
  CallP AP 39 [.ptr γ.d 0 0,.ptr x.1 0 0,.ptr i 0 0,.agg (rowI z zv),.int .u64 choice] h fun v h'=>∃ γ',RunP h' γ' R'∧Nxt h h' γ γ':=by
 rcases exec_cases hp with c | c | c
 ·exact exec1 P a s q hz hp c
 ·exact exec2 P a s q hz hp c
 ·exact exec3 P a s q hz hp c
set_option maxHeartbeats 8000000 in
theorem step (P:RunP h γ R) {g choice:Int} {e:Int} {R':Run} (hp:R.step g choice=some (e,R')):CallP AP 17 [.ptr γ.d 0 0,.int .i64 g,.int .u64 choice] h fun v h'=>v=.int .i64 e∧∃ γ',RunP h' γ' R'∧Nxt h h' γ γ':=by
 refine callP (rfl:Tr.get AP 17=some A17) ?_
 generalize hQ:(fun (r:AVal) (h':AHeap)=>_)=Q
 have ho:=P.obj
 have hlt:=P.ltd
 have hgl:=P.gs.len
 have hll:=P.gsAll.1
 have eg:(γ.gs.map (·.1)).length=R.gs.length:=by rw [List.length_map];exact hll
 rw [eg] at hgl
 unfold Run.step at hp
 by_cases c1:g<0
 ·have hn:at? R.gs g=none:=by unfold at?;rw [if_neg (by omega)]
  rw [hn] at hp
  cases hp
  have d1:decide (g<0)=true:=decide_eq_true c1
  simp -implicitDefEqProofs (disch:=first|exact dz _|fail) only [↓AM.R0,AM.R1,AM.R2,qA,qB,qC,qD,qE,↓reduceIte,qG,qH,qI,d1]
  subst hQ
  exact ⟨rfl,γ,P,Nxt.refl _ _⟩
 have d1:decide (g<0)=false:=decide_eq_false c1
 by_cases c2:(R.gs.length:Int)≤g
 ·have hn:at? R.gs g=none:=by unfold at?;rw [if_pos (by omega)];exact List.getElem?_eq_none (by omega)
  rw [hn] at hp
  cases hp
  have d2:decide ((R.gs.length:Int)≤g)=true:=decide_eq_true c2
  simp -implicitDefEqProofs (disch:=first|exact dz _|fail) only [↓AM.R0,AM.R1,AM.R2,qA,qB,qC,qD,qE,↓reduceIte,qG,qH,qI,d1,ho,hgl,d2]
  subst hQ
  exact ⟨rfl,γ,P,Nxt.refl _ _⟩
 have d2:decide ((R.gs.length:Int)≤g)=false:=decide_eq_false c2
 have hr0:R.gs[g.toNat]?=some (R.gs[g.toNat]'(by omega)):=List.getElem?_eq_getElem (by omega)
 obtain ⟨r,hr⟩:∃ r,R.gs[g.toNat]?=some r:=⟨_,hr0⟩
 have hra:at? R.gs g=some r:=by unfold at?;rw [if_pos (by omega)];exact hr
 rw [hra] at hp
 simp only at hp
 obtain ⟨x,fv,hx,s⟩:=P.rt hr
 have hro:=s.obj
 have hrlt:=s.lt
 have hgx:at? (γ.gs.map (·.1)) g=some x.1:=by unfold at?;rw [if_pos (by omega),List.getElem?_map,hx];rfl
 obtain ⟨id,gn,off,vs,x1,x2,x3,x4⟩:=P.gs.ix (enc:=fun id=>.ptr id 0 0) hgx
 cases c3:R.ended with
 | true =>
  rw [if_pos (.inl c3)] at hp
  cases hp
  simp -implicitDefEqProofs (disch:=first|exact dz _|fail) only [↓AM.R0,AM.R1,AM.R2,qA,qB,qC,qD,qE,↓reduceIte,qG,qH,qI,d1,ho,hgl,d2,c3]
  subst hQ
  exact ⟨rfl,γ,P,Nxt.refl _ _⟩
 | false =>
  by_cases c4:r.state=1
  ·rw [if_neg (by rintro (q | q);rw [c3] at q;cases q;exact q c4)] at hp
   have d4:(!decide (r.state=1))=false:=by simp [c4]
   have nid:id≠γ.d:=fun e=>by
    obtain ⟨F,S,kF⟩:=P.gs
    rcases S with ⟨e1,_⟩ | ⟨id',g',off',vs',e1,e2,_,_,_,e6⟩
    ·rw [e1] at x1;have:=x1 .i64;simp [ixV] at this
    ·have h1:=x1 .i64
     rw [e1] at h1
     simp only [ixV] at h1
     split at h1
     ·simp only [Option.some.injEq,Prod.mk.injEq,AVal.ptr.injEq,and_true] at h1
      obtain ⟨rfl,_⟩:=h1
      have h2:=kF id' (by simp [e6])
      rw [e] at h2
      exact Tag.noConfusion (h2.symm.trans P.kd)
     ·cases h1
   have nrd:x.1≠γ.d:=fun e=>by have:=s.kid;rw [e] at this;exact Tag.noConfusion (this.symm.trans P.kd)
   have C1:Chg (·=.d) h (h.set γ.d (.cells 0 false [γ.tv,γ.gv,γ.fv,γ.glv,γ.thv,γ.gsv,.int .u64 R.clock,γ.trv,.bool false,.int .i64 g])) γ.K γ.K:=(Chg.refl (·=.d) h γ.K).set (fun _=>P.kd) _
   have ob1:(h.set γ.d (.cells 0 false [γ.tv,γ.gv,γ.fv,γ.glv,γ.thv,γ.gsv,.int .u64 R.clock,γ.trv,.bool false,.int .i64 g])).get γ.d=.cells 0 false [γ.tv,γ.gv,γ.fv,γ.glv,γ.thv,γ.gsv,.int .u64 R.clock,γ.trv,.bool R.ended,.int .i64 g]:=by rw [c3];exact AHeap.get_set_same _ _ _
   obtain ⟨P1,N1⟩:=P.setD C1 ob1
   have s1:=s.keep C1 Tag.noConfusion Tag.noConfusion Tag.noConfusion (fun k=>⟨Tag.noConfusion,Tag.noConfusion,Tag.noConfusion⟩)
   have hro1:=s1.obj
   have hrlt1:=s1.lt
   have x1':=fun k=>ix_keep (h':=h.set γ.d (.cells 0 false [γ.tv,γ.gv,γ.fv,γ.glv,γ.thv,γ.gsv,.int .u64 R.clock,γ.trv,.bool false,.int .i64 g])) (x1 k) (AHeap.get_set_ne _ _ nid)
   simp -implicitDefEqProofs (disch:=first|exact dz _|fail) only [↓AM.R0,AM.R1,AM.R2,qA,qB,qC,qD,qE,↓reduceIte,qG,qH,qI,d1,ho,hgl,d2,c3,x1,x1',x2,x4,hro,d4,nid,nrd]
   generalize h.set γ.d (.cells 0 false [γ.tv,γ.gv,γ.fv,γ.glv,γ.thv,γ.gsv,.int .u64 R.clock,γ.trv,.bool false,.int .i64 g])=h1 at *
   simp only [Option.bind_eq_some_iff,Option.map_eq_some_iff,Prod.mk.injEq] at hp
   obtain ⟨R3,hact,R4,hend,rfl,rfl⟩:=hp
   unfold Run.act at hact
   simp only [hr,Option.bind_some] at hact
   unfold Run.ending at hend
   simp only [Option.bind_eq_some_iff] at hend
   obtain ⟨_,hglim,hend⟩:=hend
   have hglim:=lim_lt hglim
   cases c5:r.hit with
   | true =>
    rw [if_pos c5] at hact
    simp -implicitDefEqProofs (disch:=first|exact dz _|fail) only [↓AM.R0,AM.R1,AM.R2,qA,qB,qC,qD,qE,↓reduceIte,qG,qH,qI,hro1]
    have C2:=(Chg.refl (·=.rt g.toNat) h1 γ.K).set (i:=x.1) (fun _=>s.kid) (.cells 0 false [.int .i64 r.state,.int .u64 r.till,.bool r.sleeps,fv,.int .u64 r.serial,.bool r.panics,.int .i64 r.number,.bool false])
    obtain ⟨P2,N2⟩:=P1.setRow0 (r':={ r with hit:=false }) C2 hr hx s1 rfl (AHeap.get_set_same _ _ _)
    refine AM.callI_of (panic P2 hact) ?_
    rintro v h3 ⟨γ3,P3,N3⟩
    have N13:=(N1.trans N2).trans N3
    have ho3:=P3.obj
    have hlt3:=P3.ltd
    rw [N13.d] at ho3 hlt3
    cases c6:R3.ended with
    | true =>
     rw [if_neg (fun q=>by rw [c6] at q;cases q.1)] at hend
     cases hend
     simp -implicitDefEqProofs (disch:=first|exact dz _|fail) only [↓AM.R0,AM.R1,AM.R2,qA,qB,qC,qD,qE,↓reduceIte,qG,qH,qI,ho3,c6]
     subst hQ
     exact ⟨rfl,γ3,P3,N13⟩
    | false =>
     simp -implicitDefEqProofs (disch:=first|exact dz _|fail) only [↓AM.R0,AM.R1,AM.R2,qA,qB,qC,qD,qE,↓reduceIte,qG,qH,qI,ho3,c6]
     rw [←N13.d]
     refine AM.callI_of (stuckG P3 hglim) ?_
     rintro v h4 ⟨rfl,rfl⟩
     cases c7:R3.stuck with
     | true =>
      rw [if_pos ⟨c6,c7⟩] at hend
      simp -implicitDefEqProofs (disch:=first|exact dz _|fail) only [↓AM.R0,AM.R1,AM.R2,qA,qB,qC,qD,qE,↓reduceIte,qG,qH,qI]
      refine AM.callI_of (tell P3 hend) ?_
      rintro v h5 ⟨γ5,P5,N5⟩
      simp -implicitDefEqProofs (disch:=first|exact dz _|fail) only [↓AM.R0,AM.R1,AM.R2,qA,qB,qC,qD,qE,↓reduceIte,qG,qH,qI]
      subst hQ
      exact ⟨rfl,γ5,P5,N13.trans N5⟩
     | false =>
      rw [if_neg (fun q=>by rw [c7] at q;cases q.2)] at hend
      cases hend
      simp -implicitDefEqProofs (disch:=first|exact dz _|fail) only [↓AM.R0,AM.R1,AM.R2,qA,qB,qC,qD,qE,↓reduceIte,qG,qH,qI]
      subst hQ
      exact ⟨rfl,γ3,P3,N13⟩
   | false =>
    rw [if_neg (by rw [c5];simp)] at hact
    simp only [Option.bind_eq_some_iff] at hact
    obtain ⟨_,hb,f,hf,F,hF,z,hz,hact⟩:=hact
    have hb:=lim_lt hb
    obtain ⟨i,hi,sv,iv,lv,vv,la,q⟩:=s1.fr hf
    simp -implicitDefEqProofs (disch:=first|exact dz _|fail) only [↓AM.R0,AM.R1,AM.R2,qA,qB,qC,qD,qE,↓reduceIte,qG,qH,qI,hro1]
    refine AM.callI_of (top s1 (i:=i) hi (by omega)) ?_
    rintro v h2 ⟨rfl,rfl⟩
    have ho2:=P1.obj
    have hlt2:=P1.ltd
    have hq:=q.obj
    have hqlt:=q.lt
    obtain ⟨idp,gp,offp,vsp,rop,row,p1,p2,p3,p4,p5,p6,p7,svp,rvp,cvp,rfl,s1p,s2p,s3p⟩:=P1.prog.f.ix hF
    have p8:vsp[offp+3]?=some cvp:=row_at p6 (by omega)
    obtain ⟨idz,gz,offz,vsz,roz,rowz,z1,z2,z3,z4,z5,z6,z7,zv,rfl,sz⟩:=s3p.ix hz
    have zc:=sz.now.cells
    have zb:=sz.now.beq
    have fb:=P1.prog.f.beq
    have cb:=s3p.beq
    have p1':=fun o k=>ix_keep (h':=h2.push o) (p1 k) (AHeap.get_push_ne _ _ (by omega))
    have z1':=fun o k=>ix_keep (h':=h2.push o) (z1 k) (AHeap.get_push_ne _ _ (by omega))
    have c2:=Chg.tmp h2 γ.K (.cells 0 false [.int .i64 0,.int .i64 0,.int .i64 0,.int .i64 0,.int .u64 0,.nils]) (.cells 0 false (rowI z zv))
    have P2:=P1.tmp c2
    have q2:=q.keep c2 (fun q=>q) (fun q=>q) (fun q=>q) (fun q=>q)
    have sz2:=sz.keep c2 (fun q=>q)
    have kn:γ.K h2.n=.no:=P1.kn
    have hq2:=q2.obj
    have hqlt2:=q2.lt
    have gt:((h2.push (.cells 0 false [.int .i64 0,.int .i64 0,.int .i64 0,.int .i64 0,.int .u64 0,.nils])).set h2.n (.cells 0 false (rowI z zv))).get h2.n=.cells 0 false (rowI z zv):=AHeap.get_set_same _ _ _
    have lt:h2.n<((h2.push (.cells 0 false [.int .i64 0,.int .i64 0,.int .i64 0,.int .i64 0,.int .u64 0,.nils])).set h2.n (.cells 0 false (rowI z zv))).n:=by simp
    have N2:=N1.trans (Nxt.tmp (γ:=γ) c2)
    simp only [rowI] at gt P2 q2 hq2 sz2 N2 lt
    simp -implicitDefEqProofs (disch:=first|exact dz _|fail) only [↓AM.R0,AM.R1,AM.R2,qA,qB,qC,qD,qE,↓reduceIte,qG,qH,qI,ho2,hq,p1,p1',p2,p8,z1,z1',z2,z5,z6,zc.1,zc.2,zb,fb,cb]
    generalize ((h2.push (.cells 0 false [.int .i64 0,.int .i64 0,.int .i64 0,.int .i64 0,.int .u64 0,.nils])).set h2.n (.cells 0 false [.int .i64 z.op,.int .i64 z.a,.int .i64 z.b,.int .i64 z.c,.int .u64 z.imm,zv]))=h5 at *
    have cc:=(Chg.refl (·=.fr g.toNat (r.frames.length-1)) h5 γ.K).set (i:=i) (fun _=>q2.kid) (.cells 0 false [.int .i64 f.fn,.int .i64 (i64 (f.pc+1)),.int .u64 f.serial,sv,iv,lv,.int .i64 f.mode,.bool f.ending,vv])
    have s2:=s1.keep c2 (fun q=>q) (fun q=>q) (fun q=>q) (fun k=>⟨fun q=>q,fun q=>q,fun q=>q⟩)
    have q3:FrV (h5.set i (.cells 0 false [.int .i64 f.fn,.int .i64 (i64 (f.pc+1)),.int .u64 f.serial,sv,iv,lv,.int .i64 f.mode,.bool f.ending,vv])) γ.K g.toNat (r.frames.length-1) i { f with pc:=i64 (f.pc+1) } sv iv lv vv la:=⟨q2.kid,q2.lt,AHeap.get_set_same _ _ _,q2.slots.keep cc Tag.noConfusion,q2.into.keep cc Tag.noConfusion,q2.lates.keep cc Tag.noConfusion,q2.args.mono fun _ _ _ _ _ q=>⟨q.1,q.2.keep cc Tag.noConfusion⟩,q2.saved.keep cc Tag.noConfusion⟩
    obtain ⟨P6,N6⟩:=P2.setFr cc (fun t q=>.inl q) (fun j hj=>P2.k0 j hj) ⟨hr,hf,hx,hi⟩ ⟨_,_,_,_,_,q3⟩
    have s3:=s2.setF cc (fun t q=>.inl q) hf hi ⟨_,_,_,_,_,q3⟩
    have a3:At (h5.set i (.cells 0 false [.int .i64 f.fn,.int .i64 (i64 (f.pc+1)),.int .u64 f.serial,sv,iv,lv,.int .i64 f.mode,.bool f.ending,vv])) γ (({ R with g:=g }:Run).setR g.toNat (r.setF (r.frames.length-1) { f with pc:=i64 (f.pc+1) })) g.toNat (r.frames.length-1) (r.setF (r.frames.length-1) { f with pc:=i64 (f.pc+1) }) { f with pc:=i64 (f.pc+1) } x i :=
     ⟨List.getElem?_set_self (List.getElem?_eq_some_iff.1 hr).1,List.getElem?_set_self (List.getElem?_eq_some_iff.1 hf).1,hx,hi⟩
    have hex:=execute P6 a3 s3 q3 (sz2.keep cc Tag.noConfusion) hact
    unfold i64 at hex
    refine AM.callI_of hex ?_
    rintro v h3 ⟨γ3,P3,N3⟩
    have N13:=(N2.trans N6).trans N3
    have ho3:=P3.obj
    have hlt3:=P3.ltd
    rw [N13.d] at ho3 hlt3
    cases c6:R3.ended with
    | true =>
     rw [if_neg (fun q=>by rw [c6] at q;cases q.1)] at hend
     cases hend
     simp -implicitDefEqProofs (disch:=first|exact dz _|fail) only [↓AM.R0,AM.R1,AM.R2,qA,qB,qC,qD,qE,↓reduceIte,qG,qH,qI,ho3,c6]
     subst hQ
     exact ⟨rfl,γ3,P3,N13⟩
    | false =>
     simp -implicitDefEqProofs (disch:=first|exact dz _|fail) only [↓AM.R0,AM.R1,AM.R2,qA,qB,qC,qD,qE,↓reduceIte,qG,qH,qI,ho3,c6]
     rw [←N13.d]
     refine AM.callI_of (stuckG P3 hglim) ?_
     rintro v h4 ⟨rfl,rfl⟩
     cases c7:R3.stuck with
     | true =>
      rw [if_pos ⟨c6,c7⟩] at hend
      simp -implicitDefEqProofs (disch:=first|exact dz _|fail) only [↓AM.R0,AM.R1,AM.R2,qA,qB,qC,qD,qE,↓reduceIte,qG,qH,qI]
      refine AM.callI_of (tell P3 hend) ?_
      rintro v h5 ⟨γ5,P5,N5⟩
      simp -implicitDefEqProofs (disch:=first|exact dz _|fail) only [↓AM.R0,AM.R1,AM.R2,qA,qB,qC,qD,qE,↓reduceIte,qG,qH,qI]
      subst hQ
      exact ⟨rfl,γ5,P5,N13.trans N5⟩
     | false =>
      rw [if_neg (fun q=>by rw [c7] at q;cases q.2)] at hend
      cases hend
      simp -implicitDefEqProofs (disch:=first|exact dz _|fail) only [↓AM.R0,AM.R1,AM.R2,qA,qB,qC,qD,qE,↓reduceIte,qG,qH,qI]
      subst hQ
      exact ⟨rfl,γ3,P3,N13⟩
  ·rw [if_pos (.inr c4)] at hp
   cases hp
   have d4:(!decide (r.state=1))=true:=by simp [c4]
   simp -implicitDefEqProofs (disch:=first|exact dz _|fail) only [↓AM.R0,AM.R1,AM.R2,qA,qB,qC,qD,qE,↓reduceIte,qG,qH,qI,d1,ho,hgl,d2,c3,x1,x2,x4,hro,d4]
   subst hQ
   exact ⟨rfl,γ,P,Nxt.refl _ _⟩
end
end Go.Proofs.Ytnbnpjhlflcjeaa.Id
namespace Go.Proofs.Ytnbnpjhlflcjeaa.Id
open Go Go.AM Go.Proofs.Ytnbnpjhlflcjeaa.AmGB
open Nat renaming reduceAdd → qA,reduceLeDiff → qB,reduceEqDiff → qC,reduceLT → qE
open Int renaming reduceToNat → qD,reduceEq → qG,reduceLT → qH,reduceLE → qI
theorem flat_setC {α:Type} {enc:α→List AVal} {n:Nat} (hE:∀ a,(enc a).length=n) {c:Nat} {x:AVal} (hc:c<n) {a a':α} (ha:enc a'=(enc a).set c x):∀ {l:List α} {j:Nat},l[j]?=some a→(l.flatMap enc).set (j*n+c) x=(l.set j a').flatMap enc
 | [],j,h=>by simp at h
 | b::l,0,h=>by
  simp at h;subst h
  rw [List.flatMap_cons,List.set_cons_zero,List.flatMap_cons,Nat.zero_mul,Nat.zero_add,List.set_append_left _ _ (by rw [hE];exact hc),ha]
 | b::l,j+1,h=>by
  have ih:=flat_setC hE hc ha (l:=l) (j:=j) (by simpa using h)
  rw [List.flatMap_cons,List.set_cons_succ,List.flatMap_cons,←ih,List.set_append_right _ _ (by rw [hE,Nat.add_mul];omega),hE]
  congr 2
  rw [Nat.add_mul];omega
theorem SlOf.updC {α:Type} {enc:α→List AVal} {n:Nat} {h:AHeap} {v:AVal} {l:List α} {G:List Nat} (s:SlOf h n enc v l G) (hE:∀ a,(enc a).length=n) {j:Nat} {a:α} (hj:l[j]?=some a) {c:Nat} (hc:c<n) :
  ∃ id g off vs,v=.sl id g off l.length n∧h.get id=.cells g false vs∧id<h.n∧off+j*n+n≤vs.length∧G=[id]∧(∀ k:IntKind,ixV h n v (.int k (j:Int))=some (.ptr id g (off+j*n),h))∧(vs.drop (off+j*n)).take n=enc a ∧
   ∀ (x:AVal) (a':α),enc a'=(enc a).set c x→SlOf (h.set id (.cells g false (vs.take (off+j*n+c)++[x]++vs.drop (off+j*n+c+1)))) n enc v (l.set j a') G:=by
 have hjl:=(List.getElem?_eq_some_iff.1 hj).1
 rcases s with ⟨_,e,_⟩ | ⟨id,g,off,vs,e1,e2,e3,e4,e5,e6⟩
 ·subst e;simp at hjl
 ·have h1:=mul_lt_len (esz:=n) hjl
  have hfl:=AM.flat_len (l:=l) hE
  have hat:(vs.drop (off+j*n)).take n=enc a:=by
   rw [←List.drop_drop,e5,AM.flat_drop hE]
   have:l.drop j=a::l.drop (j+1):=by
    rw [List.drop_eq_getElem_cons hjl];congr 1
    exact (List.getElem?_eq_some_iff.1 hj).2
   rw [this,List.flatMap_cons,List.take_append_of_le_length (by rw [hE];omega),List.take_of_length_le (by rw [hE];omega)]
  refine ⟨id,g,off,vs,e1,e2,e3,by omega,e6,fun k=>?_,hat,fun x a' ha=>.inr ⟨id,g,off,_,by rw [List.length_set];exact e1,AHeap.get_set_same _ _ _,e3,?_,?_,e6⟩⟩
  ·rw [e1]
   have:=AM.ix_sl (h:=h) (k:=k) (n:=(j:Int)) (len:=l.length) (esz:=n) (off:=off) e2 (by omega) (by omega)
   simpa using this
  ·rw [List.length_set];simp only [List.length_append,List.length_take,List.length_drop,List.length_cons,List.length_nil];omega
  ·have e7:vs.take (off+j*n+c)++[x]++vs.drop (off+j*n+c+1)=vs.set (off+j*n+c) x:=by
    rw [List.set_eq_take_append_cons_drop,if_pos (by omega),List.append_assoc];rfl
   rw [e7,List.drop_set,if_neg (by omega),e5,show off+j*n+c-off=j*n+c by omega,flat_setC hE hc ha hj]
theorem SlIn.elems {α:Type} {enc:α→List AVal} {n:Nat} {h:AHeap} {v:AVal} {l:List α} (s:SlIn h n enc v l):h.elems n v=some (l.length,l.flatMap enc):=by
 rcases s with s | ⟨rfl,id,off,rfl,hid,_⟩
 ·exact s.elems
 ·simp [AHeap.elems,hid]
theorem app_nil {α:Type} {enc:α→List AVal} {n:Nat} {h:AHeap} {y:AVal} {l:List α} (t:SlIn h n enc y l) (hE:∀ a,(enc a).length=n) (hC:∀ a,a∈l→(enc a).all (·.cell)=true) {bytes:Nat} (hb:l.length*bytes≤1099511627776) {k:AVal→AHeap→Prop}
  (w:∀ v' h' F',SlOf h' n enc v' l F'→HFrame h h' [] F'→k v' h'):AM.wpOp (h.app n bytes .nils y) k:=by
 have hcs:(l.flatMap enc).all (·.cell)=true:=by
  rw [List.all_eq_true];intro x hx
  obtain ⟨a,ha1,ha⟩:=List.mem_flatMap.1 hx
  exact List.all_eq_true.1 (hC a ha1) x ha
 unfold AHeap.app
 rw [SlIn.elems t,Option.bind_some]
 simp only
 by_cases h0:l.length=0
 ·rw [if_pos h0]
  have:l=[]:=List.eq_nil_of_length_eq_zero h0
  subst this
  exact w _ _ [] (.inl ⟨rfl,rfl,rfl⟩) (HFrame.refl (by simp))
 ·rw [if_neg h0,if_pos ⟨hb,hcs⟩]
  exact w _ _ [h.n] (.inr ⟨h.n,0,0,_,rfl,AHeap.get_push_same _ _,by simp,by rw [flat_len hE];simp,by simp,rfl⟩) ⟨by simp,rfl,fun j hj _=>AHeap.get_push_ne h _ (by omega),fun j hj=>.inr (by simp at hj;omega),fun j hj=>by simp at hj;simp;omega⟩
theorem SlR.rows {α:Type} {h:AHeap} {m:Nat} {R:α→List AVal→Prop} {v:AVal} {l:List α} (s:SlR h m R v l) (hc:∀ a row,R a row→row.all (·.cell)=true):∃ rows:List (Row m),SlIn h m (fun r=>r.1) v rows∧rows.length=l.length∧∀ (i:Nat) (a:α) (r:Row m),l[i]?=some a→rows[i]?=some r→R a r.1:=by
 rcases s with ⟨rfl,rfl⟩ | ⟨id,off,rfl,rfl,e1,e2⟩ | ⟨id,g,off,vs,ro,rows,rfl,e1,e2,e0,e3,e4,e5,e6⟩
 ·exact ⟨[],.inl (.inl ⟨rfl,rfl⟩),rfl,by simp⟩
 ·exact ⟨[],.inr ⟨rfl,id,off,rfl,e1,e2⟩,rfl,by simp⟩
 ·have hall:∀ row,row∈rows→row.length=m∧row.all (·.cell)=true:=fun row hr=>by
   obtain ⟨i,hi⟩:=List.getElem?_of_mem hr
   have hil:=(List.getElem?_eq_some_iff.1 hi).1
   have ha:l[i]?=some l[i]:=List.getElem?_eq_getElem (by omega)
   exact ⟨e5 row hr,hc _ _ (e6 i _ row ha hi)⟩
  have hv:(rows.attach.map fun r=>(⟨r.1,hall r.1 r.2⟩:Row m)).flatMap (fun r=>r.1)=rows.flatten:=by
   rw [List.flatMap_map]
   show rows.attach.flatMap (fun r=>r.1)=_
   rw [List.flatMap_def,List.attach_map_subtype_val]
  refine ⟨rows.attach.map fun r=>⟨r.1,hall r.1 r.2⟩,.inl (.inr ⟨id,g,off,vs,ro,by simp [e4],e1,e2,by simpa [e4] using e0,?_⟩),by simp [e4],fun i a r ha hr=>?_⟩
  ·rw [hv,←e3];simp [e4]
  ·rw [List.getElem?_map,Option.map_eq_some_iff] at hr
   obtain ⟨x,hx,rfl⟩:=hr
   refine e6 i a x.1 ha ?_
   have:=congrArg (Option.map Subtype.val) hx
   rw [←List.getElem?_map,List.attach_map_subtype_val] at this
   exact this
def KS (S:List Nat):Nat→Tag:=fun j=>if j∈S then .ro else .no
theorem KS.in {S:List Nat} {j:Nat} (h:j∈S):KS S j=.ro:=if_pos h
theorem KS.out {S:List Nat} {j:Nat} (h:j ∉ S):KS S j=.no:=if_neg h
section
variable {h h' h1:AHeap}
theorem KS.chg {S F A A':List Nat} (f:HFrame h h' A A') (hA:∀ j,j∈A→j ∉ S) (hF:∀ j,j∈F→h.n≤j):Chg (·=.no) h h' (KS S) (KS (S++F)) :=
 (Chg.of (T:=(·=Tag.no)) (K:=KS S) f fun j hj _=>KS.out (hA j hj)).tag fun j hj=>by
  unfold KS
  by_cases c:j∈S
  ·rw [if_pos c,if_pos (by simp [c])]
  ·rw [if_neg c,if_neg (fun q=>by
    rcases List.mem_append.1 q with q | q
    ·exact c q
    ·have:=hF j q;omega)]
theorem RowsOf.slK {α:Type} {m:Nat} {R R':α→List AVal→Prop} {v:AVal} {l:List α} {F:List Nat} {K:Nat→Tag} (s:RowsOf h m R v l F) (hK:∀ j,j∈F→K j=.ro) (i:∀ a row,R a row→R' a row):SlK h K m R' v l:=by
 obtain ⟨rows,s1,s2,s3⟩:=s
 rcases s1 with ⟨a,b,_⟩ | ⟨id,g,off,vs,a,b,c,d,e,f⟩
 ·subst a b
  exact .inl ⟨rfl,List.eq_nil_of_length_eq_zero s2.symm⟩
 ·refine .inr ⟨id,g,off,vs,false,rows.map fun r=>r.1,by rw [←s2];exact a,hK id (by simp [f]),c,b,by rw [←s2];omega,?_,by simpa using s2,?_,?_⟩
  ·rw [←rows_flat,←e,←s2,List.take_of_length_le (by simp;omega)]
  ·intro row hr
   obtain ⟨r,_,rfl⟩:=List.mem_map.1 hr
   exact r.2.1
  ·intro i' a row h1 h2
   rw [List.getElem?_map] at h2
   cases hr:rows[i']? with
   | none=>rw [hr] at h2;cases h2
   | some r=>rw [hr] at h2;simp only [Option.map_some,Option.some.injEq] at h2;subst h2;exact i _ _ (s3 i' a r h1 hr)
theorem Ro.more {K K':Nat→Tag} {φ:AHeap→Prop} (r:Ro h K φ) (i:∀ j,K j=.ro→K' j=.ro):Ro h K' φ:=fun h' hn hk=>r h' hn fun j hj e=>hk j hj (i j e)
theorem SlK.more {K K':Nat→Tag} {α:Type} {m:Nat} {R R':α→List AVal→Prop} {v:AVal} {l:List α} (s:SlK h K m R v l) (i:∀ j,K j=.ro→K' j=.ro) (k:∀ a row,R a row→R' a row):SlK h K' m R' v l:=by
 rcases s with s | ⟨id,g,off,vs,ro,rows,e1,e2,e3,e4,e5,e6,e7,e8,e9⟩
 ·exact .inl s
 ·exact .inr ⟨id,g,off,vs,ro,rows,e1,i _ e2,e3,e4,e5,e6,e7,e8,fun i' a row h1 h2=>k _ _ (e9 i' a row h1 h2)⟩
theorem TypeO.more {K K':Nat→Tag} {t:Bool×List Int} {row:List AVal} (s:TypeO h K t row) (i:∀ j,K j=.ro→K' j=.ro):TypeO h K' t row:=by
 obtain ⟨v,e,r⟩:=s;exact ⟨v,e,r.more i⟩
theorem InsO.more {K K':Nat→Tag} {t:PIns} {row:List AVal} (s:InsO h K t row) (i:∀ j,K j=.ro→K' j=.ro):InsO h K' t row:=by
 obtain ⟨v,e,r⟩:=s;exact ⟨v,e,r.more i⟩
theorem FuncO.more {K K':Nat→Tag} {t:PFunc} {row:List AVal} (s:FuncO h K t row) (i:∀ j,K j=.ro→K' j=.ro):FuncO h K' t row:=by
 obtain ⟨sv,rv,cv,e,r1,r2,r3⟩:=s;exact ⟨sv,rv,cv,e,r1.more i,r2.more i,r3.more i fun _ _ q=>q.more i⟩
theorem SlOf.ro {α:Type} {enc:α→List AVal} {n:Nat} {v:AVal} {l:List α} {F S:List Nat} (s:SlOf h n enc v l F) (hF:∀ j,j∈F→j∈S):Ro h (KS S) fun h=>SlRd h n enc v l:=Ro.of (SlX.of s) fun j hj=>KS.in (hF j hj)
end
def limI (i:PIns):Bool:=decide (i.list.length<1000000)
def limF (f:PFunc):Bool:=decide (f.slots.length<1000000)&&decide (f.results.length<1000000)&&decide (f.code.length<1000000)&&f.code.all limI
def limP (p:PProg):Bool:=decide (p.types.length<1000000)&&decide (p.globals.length<1000000)&&decide (p.funcs.length<1000000)&&p.types.all (fun t=>decide (t.2.length<1000000))&&p.funcs.all limF
end Go.Proofs.Ytnbnpjhlflcjeaa.Id
namespace Go.Proofs.Ytnbnpjhlflcjeaa.Id
open Go Go.AM Go.Proofs.Ytnbnpjhlflcjeaa.AmGB
open Nat renaming reduceAdd → qA,reduceLeDiff → qB,reduceEqDiff → qC,reduceLT → qE
open Int renaming reduceToNat → qD,reduceEq → qG,reduceLT → qH,reduceLE → qI
section
variable {h h' h1:AHeap}
theorem insR_cells {h:AHeap} {i:PIns} {row:List AVal} (r:InsR h i row):row.all (·.cell)=true:=by
 obtain ⟨_,v,rfl,s⟩:=r
 simp [SlIn.cellv s];exact ⟨rfl,rfl,rfl,rfl,rfl⟩
theorem limP_get {p:PProg} (h:limP p=true):p.types.length<1000000∧p.globals.length<1000000∧p.funcs.length<1000000∧(∀ t,t∈p.types→t.2.length<1000000)∧∀ f,f∈p.funcs→f.slots.length<1000000∧f.results.length<1000000∧f.code.length<1000000∧∀ i,i∈f.code→i.list.length<1000000:=by
 simp only [limP,limF,limI,Bool.and_eq_true,decide_eq_true_eq,List.all_eq_true] at h
 obtain ⟨⟨⟨⟨a,b⟩,c⟩,d⟩,e⟩:=h
 exact ⟨a,b,c,d,fun f hf=>⟨(e f hf).1.1.1,(e f hf).1.1.2,(e f hf).1.2,(e f hf).2⟩⟩
structure OwnS (h h5:AHeap) (p:PProg) (S Ft Ff:List Nat) (nt nf:Nat) (tv gv fv tq gq fq:AVal) (b r q:Nat):Prop where
 f:HFrame h h5 [] []
 box:h5.get b=.cells 0 false [tv,gv,fv]
 res:h5.get r=.cells 0 false [.nils,.nils,.nils]
 obj:h5.get q=.cells 0 false [tq,gq,fq]
 types:RowsOf h5 2 (TypeO h5 (KS S)) tq (p.types.take nt) Ft
 globals:Ro h5 (KS S) fun h=>SlRd h 1 encK gq p.globals
 funcs:RowsOf h5 4 (FuncO h5 (KS S)) fq (p.funcs.take nf) Ff
 ids:h.n≤b∧b<r∧r<q∧q<h5.n
 S0:∀ j,j∈S→h.n≤j∧j<h5.n∧j≠b∧j≠r∧j≠q
 Ft0:∀ j,j∈Ft→h.n≤j∧j<h5.n∧j≠b∧j≠r∧j≠q∧j ∉ S
 Ff0:∀ j,j∈Ff→h.n≤j∧j<h5.n∧j≠b∧j≠r∧j≠q∧j ∉ S∧j ∉ Ft
theorem KS.more {S F:List Nat} {j:Nat} (e:KS S j=.ro):KS (S++F) j=.ro:=by
 unfold KS at e ⊢
 split at e
 ·rename_i c;rw [if_pos (by simp [c])]
 ·cases e
section
variable {p:PProg} {S Ft Ff F7 Ft' Ff':List Nat} {nt nf:Nat} {tv gv fv tq gq fq tq' fq':AVal} {b r q:Nat} {h5 h8 h9:AHeap}
theorem OwnS.chg (O:OwnS h h5 p S Ft Ff nt nf tv gv fv tq gq fq b r q) (f58:HFrame h5 h8 [] []) (hF:∀ j,j∈F7→h5.n≤j∧j<h8.n):Chg (·=.no) h5 h8 (KS S) (KS (S++F7)):=KS.chg f58 (by simp) fun j hj=>(hF j hj).1
theorem OwnS.types8 (O:OwnS h h5 p S Ft Ff nt nf tv gv fv tq gq fq b r q) (f58:HFrame h5 h8 [] []) (hF:∀ j,j∈F7→h5.n≤j∧j<h8.n):RowsOf h8 2 (TypeO h8 (KS (S++F7))) tq (p.types.take nt) Ft :=
 (O.types.monoR fun _ _ q=>q.keep (O.chg f58 hF) Tag.noConfusion).frame f58.n fun j hj=>f58.get j (O.types.lt j hj) (by simp)
theorem OwnS.funcs8 (O:OwnS h h5 p S Ft Ff nt nf tv gv fv tq gq fq b r q) (f58:HFrame h5 h8 [] []) (hF:∀ j,j∈F7→h5.n≤j∧j<h8.n):RowsOf h8 4 (FuncO h8 (KS (S++F7))) fq (p.funcs.take nf) Ff :=
 (O.funcs.monoR fun _ _ q=>q.keep (O.chg f58 hF) Tag.noConfusion).frame f58.n fun j hj=>f58.get j (O.funcs.lt j hj) (by simp)
theorem OwnS.typ (O:OwnS h h5 p S Ft Ff nt nf tv gv fv tq gq fq b r q) (f58:HFrame h5 h8 [] []) (hF:∀ j,j∈F7→h5.n≤j∧j<h8.n) {t:Bool×List Int} (ht:p.types[nt]?=some t) (f9:HFrame h8 h9 Ft Ft') (s9:RowsOf h9 2 (TypeO h8 (KS (S++F7))) tq' (p.types.take nt++[t]) Ft') :
  OwnS h (h9.set q (.cells 0 false [tq',gq,fq])) p (S++F7) Ft' Ff (nt+1) nf tv gv fv tq' gq fq b r q:=by
 obtain ⟨i1,i2,i3,i4⟩:=O.ids
 have n58:=f58.n
 have n9:=f9.n
 have nF:=O.f.n
 have hA:∀ j,j∈Ft→j ∉ S++F7:=fun j hj hm=>by
  obtain ⟨a1,a2,_,_,_,a3⟩:=O.Ft0 j hj
  rcases List.mem_append.1 hm with m | m
  ·exact a3 m
  ·have:=hF j m;omega
 have hqS:q ∉ S++F7:=fun hm=>by
  rcases List.mem_append.1 hm with m | m
  ·have:=O.S0 q m;omega
  ·have:=hF q m;omega
 have ck:=O.chg f58 hF
 have c9:Chg (·=.no) h8 (h9.set q (.cells 0 false [tq',gq,fq])) (KS (S++F7)) (KS (S++F7)):=(Chg.of (T:=(·=Tag.no)) f9 fun j hj _=>KS.out (hA j hj)).set (fun _=>KS.out hqS) _
 have G:∀ j,j<h5.n→j ∉ Ft→j≠q→(h9.set q (.cells 0 false [tq',gq,fq])).get j=h5.get j:=fun j a1 a2 a3=>by
  rw [AHeap.get_set_ne _ _ a3,f9.get j (by omega) a2,f58.get j a1 (by simp)]
 refine ⟨⟨by show h.n≤h9.n;omega,by show h9.g=h.g;rw [f9.g,f58.g,O.f.g],fun j hj _=>?_,by simp,by simp⟩,?_,?_,AHeap.get_set_same _ _ _,?_,?_,?_,⟨i1,i2,i3,by show q<h9.n;omega⟩,fun j hj=>?_,fun j hj=>?_,fun j hj=>?_⟩
 ·rw [G j (by omega) (fun hm=>by have:=(O.Ft0 j hm).1;omega) (by omega)]
  exact O.f.get j hj (by simp)
 ·rw [G b (by omega) (fun hm=>(O.Ft0 b hm).2.2.1 rfl) (by omega)];exact O.box
 ·rw [G r (by omega) (fun hm=>(O.Ft0 r hm).2.2.2.1 rfl) (by omega)];exact O.res
 ·rw [take_succ_of ht]
  refine (s9.monoR fun _ _ q=>q.keep c9 Tag.noConfusion).set ?_ _
  intro hm
  rcases f9.new q hm with m | m
  ·exact (O.Ft0 q m).2.2.2.2.1 rfl
  ·omega
 ·exact (O.globals.keep ck Tag.noConfusion).keep c9 Tag.noConfusion
 ·refine ((O.funcs8 f58 hF).monoR fun _ _ q=>q.keep c9 Tag.noConfusion).frame (by show h8.n≤h9.n;omega) fun j hj=>?_
  obtain ⟨a1,a2,a3,a4,a5,a6,a7⟩:=O.Ff0 j hj
  rw [AHeap.get_set_ne _ _ a5,f9.get j (by omega) a7]
 ·rcases List.mem_append.1 hj with m | m
  ·have:=O.S0 j m;show _∧j<h9.n∧_;omega
  ·have:=hF j m;show _∧j<h9.n∧_;omega
 ·rcases f9.new j hj with m | m
  ·obtain ⟨a1,a2,a3,a4,a5,a6⟩:=O.Ft0 j m
   exact ⟨a1,by show j<h9.n;omega,a3,a4,a5,hA j m⟩
  ·have:=f9.lt j hj
   refine ⟨by omega,this,by omega,by omega,by omega,fun hm=>?_⟩
   rcases List.mem_append.1 hm with m' | m'
   ·have:=O.S0 j m';omega
   ·have:=hF j m';omega
 ·obtain ⟨a1,a2,a3,a4,a5,a6,a7⟩:=O.Ff0 j hj
  refine ⟨a1,by show j<h9.n;omega,a3,a4,a5,fun hm=>?_,fun hm=>?_⟩
  ·rcases List.mem_append.1 hm with m' | m'
   ·exact a6 m'
   ·have:=hF j m';omega
  ·rcases f9.new j hm with m | m
   ·exact a7 m
   ·omega
theorem OwnS.fnc (O:OwnS h h5 p S Ft Ff nt nf tv gv fv tq gq fq b r q) (f58:HFrame h5 h8 [] []) (hF:∀ j,j∈F7→h5.n≤j∧j<h8.n) {t:PFunc} (ht:p.funcs[nf]?=some t) (f9:HFrame h8 h9 Ff Ff') (s9:RowsOf h9 4 (FuncO h8 (KS (S++F7))) fq' (p.funcs.take nf++[t]) Ff') :
  OwnS h (h9.set q (.cells 0 false [tq,gq,fq'])) p (S++F7) Ft Ff' nt (nf+1) tv gv fv tq gq fq' b r q:=by
 obtain ⟨i1,i2,i3,i4⟩:=O.ids
 have n58:=f58.n
 have n9:=f9.n
 have nF:=O.f.n
 have hA:∀ j,j∈Ff→j ∉ S++F7:=fun j hj hm=>by
  obtain ⟨a1,a2,_,_,_,a3,_⟩:=O.Ff0 j hj
  rcases List.mem_append.1 hm with m | m
  ·exact a3 m
  ·have:=hF j m;omega
 have hqS:q ∉ S++F7:=fun hm=>by
  rcases List.mem_append.1 hm with m | m
  ·have:=O.S0 q m;omega
  ·have:=hF q m;omega
 have ck:=O.chg f58 hF
 have c9:Chg (·=.no) h8 (h9.set q (.cells 0 false [tq,gq,fq'])) (KS (S++F7)) (KS (S++F7)):=(Chg.of (T:=(·=Tag.no)) f9 fun j hj _=>KS.out (hA j hj)).set (fun _=>KS.out hqS) _
 have G:∀ j,j<h5.n→j ∉ Ff→j≠q→(h9.set q (.cells 0 false [tq,gq,fq'])).get j=h5.get j:=fun j a1 a2 a3=>by
  rw [AHeap.get_set_ne _ _ a3,f9.get j (by omega) a2,f58.get j a1 (by simp)]
 refine ⟨⟨by show h.n≤h9.n;omega,by show h9.g=h.g;rw [f9.g,f58.g,O.f.g],fun j hj _=>?_,by simp,by simp⟩,?_,?_,AHeap.get_set_same _ _ _,?_,?_,?_,⟨i1,i2,i3,by show q<h9.n;omega⟩,fun j hj=>?_,fun j hj=>?_,fun j hj=>?_⟩
 ·rw [G j (by omega) (fun hm=>by have:=(O.Ff0 j hm).1;omega) (by omega)]
  exact O.f.get j hj (by simp)
 ·rw [G b (by omega) (fun hm=>(O.Ff0 b hm).2.2.1 rfl) (by omega)];exact O.box
 ·rw [G r (by omega) (fun hm=>(O.Ff0 r hm).2.2.2.1 rfl) (by omega)];exact O.res
 ·refine ((O.types8 f58 hF).monoR fun _ _ q=>q.keep c9 Tag.noConfusion).frame (by show h8.n≤h9.n;omega) fun j hj=>?_
  obtain ⟨a1,a2,a3,a4,a5,a6⟩:=O.Ft0 j hj
  rw [AHeap.get_set_ne _ _ a5,f9.get j (by omega) (fun hm=>(O.Ff0 j hm).2.2.2.2.2.2 hj)]
 ·exact (O.globals.keep ck Tag.noConfusion).keep c9 Tag.noConfusion
 ·rw [take_succ_of ht]
  refine (s9.monoR fun _ _ q=>q.keep c9 Tag.noConfusion).set ?_ _
  intro hm
  rcases f9.new q hm with m | m
  ·exact (O.Ff0 q m).2.2.2.2.1 rfl
  ·omega
 ·rcases List.mem_append.1 hj with m | m
  ·have:=O.S0 j m;show _∧j<h9.n∧_;omega
  ·have:=hF j m;show _∧j<h9.n∧_;omega
 ·obtain ⟨a1,a2,a3,a4,a5,a6⟩:=O.Ft0 j hj
  refine ⟨a1,by show j<h9.n;omega,a3,a4,a5,fun hm=>?_⟩
  rcases List.mem_append.1 hm with m' | m'
  ·exact a6 m'
  ·have:=hF j m';omega
 ·rcases f9.new j hj with m | m
  ·obtain ⟨a1,a2,a3,a4,a5,a6,a7⟩:=O.Ff0 j m
   exact ⟨a1,by show j<h9.n;omega,a3,a4,a5,hA j m,a7⟩
  ·have:=f9.lt j hj
   refine ⟨by omega,this,by omega,by omega,by omega,fun hm=>?_,fun hm=>?_⟩
   ·rcases List.mem_append.1 hm with m' | m'
    ·have:=O.S0 j m';omega
    ·have:=hF j m';omega
   ·have:=(O.Ft0 j hm).2.1;omega
end
set_option maxHeartbeats 16000000 in
theorem own {p:PProg} {row:List AVal} (R:ProgR h p row) (hl:limP p=true):CallP AP 35 [.agg row] h fun v h'=>∃ tv gv fv S,v=.agg [tv,gv,fv]∧HFrame h h' [] []∧ProgO h' (KS S) p tv gv fv∧∀ j,j∈S→h.n≤j∧j<h'.n:=by
 obtain ⟨tv,gv,fv,rfl,RT,RG,RF⟩:=R
 obtain ⟨l1,l2,l3,l4,l5⟩:=limP_get hl
 refine callP (rfl:Tr.get AP 35=some A35) ?_
 generalize hQ:(fun (r:AVal) (h':AHeap)=>_)=Q
 have c1:=SlR.cellv RT
 have c2:=SlIn.cellv RG
 have c3:=SlR.cellv RF
 have hg:((h.push (.cells 0 false [tv,gv,fv])).push (.cells 0 false [.nils,.nils,.nils])).get h.n=.cells 0 false [tv,gv,fv]:=by rw [AHeap.get_push_ne _ _ (by simp)];exact AHeap.get_push_same _ _
 have f0:=((HFrame.refl (h:=h) (F:=[]) (by simp)).pushTmp (.cells 0 false [tv,gv,fv])).pushTmp (.cells 0 false [.nils,.nils,.nils])
 have gr:((h.push (.cells 0 false [tv,gv,fv])).push (.cells 0 false [.nils,.nils,.nils])).get (h.n+1)=.cells 0 false [.nils,.nils,.nils]:=AHeap.get_push_same (h.push _) _
 have n1:((h.push (.cells 0 false [tv,gv,fv])).push (.cells 0 false [.nils,.nils,.nils])).n=h.n+2:=rfl
 simp -implicitDefEqProofs (disch:=first|exact dz _|fail) only [↓AM.R0,AM.R1,AM.R2,qA,qB,qC,qD,qE,↓reduceIte,qG,qH,qI,c1,c2,c3]
 generalize (h.push (.cells 0 false [tv,gv,fv])).push (.cells 0 false [.nils,.nils,.nils])=h1 at *
 refine AM.opI_of (app_nil (RG.mono f0.n fun j hj=>f0.get j hj (by simp)) (fun _=>rfl) (fun _ _=>rfl) (by omega) fun gq h2 Fg s2 f2=>?_)
 have n2:=f2.n
 have g2:=(f2.get h.n (by omega) (by simp)).trans hg
 have r2:=(f2.get (h.n+1) (by omega) (by simp)).trans gr
 have gc:=s2.rd.cells
 have kFg:∀ j,j∈Fg→h.n+2≤j∧j<h2.n:=fun j hj=>⟨by
  rcases f2.new j hj with e | e
  ·simp at e
  ·omega,s2.lt j hj⟩
 have f02:HFrame h h2 [] []:=f0.trans (f2.wide (fun j hj=>by simp at hj) (fun j hj=>by simp at hj) (by simp))
 have f3:=(f02.pushTmp (.cells 0 false [.nils,.nils,.nils])).setTmp (i:=h2.n) (by omega) (.cells 0 false [.nils,gq,.nils])
 have O0:OwnS h ((h2.push (.cells 0 false [.nils,.nils,.nils])).set h2.n (.cells 0 false [.nils,gq,.nils])) p Fg [] [] 0 0 tv gv fv .nils gq .nils h.n (h.n+1) h2.n :=
  ⟨f3,by rw [AHeap.get_set_ne _ _ (by omega),AHeap.get_push_ne _ _ (by omega)];exact g2,by rw [AHeap.get_set_ne _ _ (by omega),AHeap.get_push_ne _ _ (by omega)];exact r2,AHeap.get_set_same _ _ _,RowsOf.nil,(SlOf.ro s2 fun j hj=>hj).keep (T:=fun _=>False) (Chg.tmp h2 (KS Fg) _ _) (fun q=>q),RowsOf.nil,⟨Nat.le_refl _,by omega,by omega,by simp⟩,
   fun j hj=>by have:=kFg j hj;simp;omega,by simp,by simp⟩
 have bx:=O0.box
 have hbn:h.n<((h2.push (.cells 0 false [.nils,.nils,.nils])).set h2.n (.cells 0 false [.nils,gq,.nils])).n:=by simp;omega
 simp -implicitDefEqProofs (disch:=first|exact dz _|fail) only [↓AM.R0,AM.R1,AM.R2,qA,qB,qC,qD,qE,↓reduceIte,qG,qH,qI,gc.1,gc.2,g2,RT.len]
 generalize ((h2.push (.cells 0 false [.nils,.nils,.nils])).set h2.n (.cells 0 false [.nils,gq,.nils]))=h3 at *
 generalize hqn:h2.n=q at *
 refine AM.loopI_of (fun c e h5=>∃ (i:Nat) (S Ft:List Nat) (tq:AVal),c+i=p.types.length∧e.val 1=.ptr h.n 0 0∧e.val 2=.ptr (h.n+1) 0 0∧e.val 3=.ptr q 0 0∧e.val 14=tv∧e.val 15=.int .i64 (p.types.length:Int)∧e.val 16=.int .i64 (i:Int)∧OwnS h h5 p S Ft [] i 0 tv gv fv tq gq .nils h.n (h.n+1) q) p.types.length ?_ ?_
 ·refine ⟨0,Fg,[],.nils,by omega,?_,?_,?_,?_,?_,?_,O0⟩<;>(simp -implicitDefEqProofs (disch:=first|exact dz _|fail) only [↓AM.R0,AM.R1,AM.R2,qA,qB,qC,qD,qE,↓reduceIte,qG,qH,qI])<;>rfl
 ·clear O0 bx hbn f3 f02 g2 r2 s2 f2 hg gr f0
  rintro c e h5 ⟨i,S,Ft,tq,hci,y1,y2,y3,y14,y15,y16,O⟩
  simp -implicitDefEqProofs (disch:=first|exact dz _|fail) only [↓AM.R0,AM.R1,AM.R2,qA,qB,qC,qD,qE,↓reduceIte,qG,qH,qI,y15,y16]
  refine AM.cI_bool (fun hc=>?_) (fun hc=>?_)
  ·simp only [decide_eq_true_eq] at hc
   obtain ⟨t,ht⟩:∃ t,p.types[i]?=some t:=⟨_,List.getElem?_eq_getElem (by omega)⟩
   have hf:=O.f
   obtain ⟨j,g2,off,vs,ro,row,x1,x2,x3,x4,x5,x6,lv,rfl,ll⟩:=(RT.mono (h':=h5) (R':=TypeR h) (fun _ _ q=>q) hf.n (fun j hj=>hf.get j hj (by simp))).ix ht .i64
   have k1:=SlIn.cellv ll
   have hq:=O.obj
   have hqn:=O.ids.2.2.2
   have wi:IntKind.i64.wrap ((i:Int)+1)=((i+1:Nat):Int):=(wrap64 (by omega) (by omega)).trans (by omega)
   have x4':off+2≤vs.length:=x4
   simp -implicitDefEqProofs (disch:=first|exact dz _|fail) only [↓AM.R0,AM.R1,AM.R2,qA,qB,qC,qD,qE,↓reduceIte,qG,qH,qI,y1,y2,y3,y14,y16,x1,x2,x4,x5,k1]
   have f56:=((HFrame.refl (h:=h5) (F:=[]) (by simp)).pushTmp (.cells 0 false [.bool false,.nils])).setTmp (i:=h5.n) (Nat.le_refl _) (.cells 0 false [.bool t.1,lv])
   have gt6:((h5.push (.cells 0 false [.bool false,.nils])).set h5.n (.cells 0 false [.bool t.1,lv])).get h5.n=.cells 0 false [.bool t.1,lv]:=AHeap.get_set_same _ _ _
   have n6:((h5.push (.cells 0 false [.bool false,.nils])).set h5.n (.cells 0 false [.bool t.1,lv])).n=h5.n+1:=rfl
   generalize (h5.push (.cells 0 false [.bool false,.nils])).set h5.n (.cells 0 false [.bool t.1,lv])=h6 at *
   refine AM.opI_of (app_nil ((ll.mono hf.n fun j hj=>hf.get j hj (by simp)).mono f56.n fun j hj=>f56.get j hj (by simp)) (fun _=>rfl) (fun _ _=>rfl) (by have:=l4 t (List.mem_of_getElem? ht);omega) fun lv' h7 F7 s7 f7=>?_)
   have n7:=f7.n
   have gt7:=(f7.get h5.n (by omega) (by simp)).trans gt6
   have lc:=s7.rd.cells
   have hF7:∀ j,j∈F7→h5.n+1≤j∧j<h7.n:=fun j hj=>⟨by
    rcases f7.new j hj with e | e
    ·simp at e
    ·omega,s7.lt j hj⟩
   have f58:=(f56.trans (f7.wide (G:=[]) (G':=[]) (fun j hj=>by simp at hj) (fun j hj=>by simp at hj) (by simp))).setTmp (i:=h5.n) (Nat.le_refl _) (.cells 0 false [.bool t.1,lv'])
   have gq7:=(f7.get q (by omega) (by simp)).trans ((f56.get q hqn (by simp)).trans hq)
   have s8:SlOf (h7.set h5.n (.cells 0 false [.bool t.1,lv'])) 1 encK lv' t.2 F7:=s7.frame (Nat.le_refl _) fun j hj=>AHeap.get_set_ne _ _ (by have:=hF7 j hj;omega)
   have hF8:∀ j,j∈F7→h5.n≤j∧j<(h7.set h5.n (.cells 0 false [.bool t.1,lv'])).n:=fun j hj=>by have:=hF7 j hj;show _∧j<h7.n;omega
   have ne1:q≠h5.n:=by omega
   simp -implicitDefEqProofs (disch:=first|exact dz _|fail) only [↓AM.R0,AM.R1,AM.R2,qA,qB,qC,qD,qE,↓reduceIte,qG,qH,qI,y1,y2,y3,y14,y16,gt7,gq7,lc.1,lc.2,ne1]
   refine AM.opI_of ((O.types8 f58 hF8).app1 (by rw [List.length_take];omega) (a:=t) (row:=[.bool t.1,lv']) rfl (by simp only [List.all_cons,lc.2];rfl) ⟨lv',rfl,SlOf.ro s8 fun j hj=>by simp [hj]⟩ fun tq' h9 Ft' s9 f9=>?_)
   have O':=O.typ f58 hF8 ht f9 s9
   have gq9:h9.get q=.cells 0 false [tq,gq,.nils]:=by
    rw [f9.get q (by show q<h7.n;omega) (fun hm=>(O.Ft0 q hm).2.2.2.2.1 rfl),AHeap.get_set_ne _ _ ne1];exact gq7
   have n9:=f9.n
   have n9':h7.n≤h9.n:=n9
   have tc:=s9.cells
   simp -implicitDefEqProofs (disch:=first|exact dz _|fail) only [↓AM.R0,AM.R1,AM.R2,qA,qB,qC,qD,qE,↓reduceIte,qG,qH,qI,y1,y2,y3,y14,y15,y16,gq9,tc.1,tc.2,wi]
   exact ⟨c-1,by omega,i+1,_,_,tq',by omega,rfl,O'⟩
  ·simp only [decide_eq_false_iff_not] at hc
   have hi:i=p.types.length:=by
    have:=O.types.lt
    omega
   subst hi
   have hbx:=O.box
   have hbn:h.n<h5.n:=by have:=O.ids;omega
   simp -implicitDefEqProofs (disch:=first|exact dz _|fail) only [↓AM.R0,AM.R1,AM.R2,qA,qB,qC,qD,qE,↓reduceIte,qG,qH,qI,y1,y2,y3,hbx,RF.len]
   refine AM.loopI_of (fun c e h5=>∃ (i:Nat) (S Ff:List Nat) (fq:AVal),c+i=p.funcs.length∧e.val 1=.ptr h.n 0 0∧e.val 2=.ptr (h.n+1) 0 0∧e.val 3=.ptr q 0 0∧e.val 32=fv∧e.val 33=.int .i64 (p.funcs.length:Int)∧e.val 34=.int .i64 (i:Int)∧OwnS h h5 p S Ft Ff p.types.length i tv gv fv tq gq fq h.n (h.n+1) q) p.funcs.length ?_ ?_
   ·refine ⟨0,S,[],.nils,by omega,?_,?_,?_,?_,?_,?_,O⟩<;>(simp -implicitDefEqProofs (disch:=first|exact dz _|fail) only [↓AM.R0,AM.R1,AM.R2,qA,qB,qC,qD,qE,↓reduceIte,qG,qH,qI,y1,y2,y3])<;>rfl
   ·clear O hbx hbn y1 y2 y3 y14 y15 y16 hci hc
    rintro c e h5 ⟨i,S,Ff,fq,hci,y1,y2,y3,y32,y33,y34,O⟩
    simp -implicitDefEqProofs (disch:=first|exact dz _|fail) only [↓AM.R0,AM.R1,AM.R2,qA,qB,qC,qD,qE,↓reduceIte,qG,qH,qI,y33,y34]
    refine AM.cI_bool (fun hc=>?_) (fun hc=>?_)
    ·simp only [decide_eq_true_eq] at hc
     obtain ⟨f,hfn⟩:∃ f,p.funcs[i]?=some f:=⟨_,List.getElem?_eq_getElem (by omega)⟩
     obtain ⟨m1,m2,m3,m4⟩:=l5 f (List.mem_of_getElem? hfn)
     have hf:=O.f
     obtain ⟨j,g2,off,vs,ro,row,x1,x2,x3,x4,x5,x6,sv,rv,cv,rfl,ls,lr,lc⟩:=(RF.mono (h':=h5) (R':=FuncR h) (fun _ _ q=>q) hf.n (fun j hj=>hf.get j hj (by simp))).ix hfn .i64
     obtain ⟨rs,lcr,hrl,hrs⟩:=SlR.rows lc fun _ _ q=>insR_cells q
     have k1:=SlIn.cellv ls
     have k2:=SlIn.cellv lr
     have k3:=SlR.cellv lc
     have hq:=O.obj
     have hqn:=O.ids.2.2.2
     have wi:IntKind.i64.wrap ((i:Int)+1)=((i+1:Nat):Int):=(wrap64 (by omega) (by omega)).trans (by omega)
     have x4':off+4≤vs.length:=x4
     simp -implicitDefEqProofs (disch:=first|exact dz _|fail) only [↓AM.R0,AM.R1,AM.R2,qA,qB,qC,qD,qE,↓reduceIte,qG,qH,qI,y1,y2,y3,y32,y34,x1,x2,x4,x5,k1,k2,k3]
     have f56:=((HFrame.refl (h:=h5) (F:=[]) (by simp)).pushTmp (.cells 0 false [.int .i64 0,.nils,.nils,.nils])).setTmp (i:=h5.n) (Nat.le_refl _) (.cells 0 false [.int .i64 f.params,sv,rv,cv])
     have gt6:((h5.push (.cells 0 false [.int .i64 0,.nils,.nils,.nils])).set h5.n (.cells 0 false [.int .i64 f.params,sv,rv,cv])).get h5.n=.cells 0 false [.int .i64 f.params,sv,rv,cv]:=AHeap.get_set_same _ _ _
     have n6:((h5.push (.cells 0 false [.int .i64 0,.nils,.nils,.nils])).set h5.n (.cells 0 false [.int .i64 f.params,sv,rv,cv])).n=h5.n+1:=rfl
     generalize (h5.push (.cells 0 false [.int .i64 0,.nils,.nils,.nils])).set h5.n (.cells 0 false [.int .i64 f.params,sv,rv,cv])=h6 at *
     refine AM.opI_of (app_nil ((ls.mono hf.n fun j hj=>hf.get j hj (by simp)).mono f56.n fun j hj=>f56.get j hj (by simp)) (fun _=>rfl) (fun _ _=>rfl) (by omega) fun sv' h7 F7 s7 f7=>?_)
     have n7:=f7.n
     have gt7:=(f7.get h5.n (by omega) (by simp)).trans gt6
     have sc7:=s7.rd.cells
     have hF7:∀ j,j∈F7→h5.n+1≤j∧j<h7.n:=fun j hj=>⟨by
      rcases f7.new j hj with e | e
      ·simp at e
      ·omega,s7.lt j hj⟩
     have f57:=(f56.trans (f7.wide (G:=[]) (G':=[]) (fun j hj=>by simp at hj) (fun j hj=>by simp at hj) (by simp))).setTmp (i:=h5.n) (Nat.le_refl _) (.cells 0 false [.int .i64 f.params,sv',rv,cv])
     have s8:SlOf (h7.set h5.n (.cells 0 false [.int .i64 f.params,sv',rv,cv])) 1 encK sv' f.slots F7:=s7.frame (Nat.le_refl _) fun j hj=>AHeap.get_set_ne _ _ (by have:=hF7 j hj;omega)
     have gt8:(h7.set h5.n (.cells 0 false [.int .i64 f.params,sv',rv,cv])).get h5.n=.cells 0 false [.int .i64 f.params,sv',rv,cv]:=AHeap.get_set_same _ _ _
     have n8:(h7.set h5.n (.cells 0 false [.int .i64 f.params,sv',rv,cv])).n=h7.n:=rfl
     simp -implicitDefEqProofs (disch:=first|exact dz _|fail) only [↓AM.R0,AM.R1,AM.R2,qA,qB,qC,qD,qE,↓reduceIte,qG,qH,qI,y1,y2,y3,y32,y34,gt7,sc7.1,sc7.2]
     generalize h7.set h5.n (.cells 0 false [.int .i64 f.params,sv',rv,cv])=h8 at *
     refine AM.opI_of (app_nil ((lr.mono hf.n fun j hj=>hf.get j hj (by simp)).mono f57.n fun j hj=>f57.get j hj (by simp)) (fun _=>rfl) (fun _ _=>rfl) (by omega) fun rv' h9 F9 s9 f9=>?_)
     have n9:=f9.n
     have gt9:=(f9.get h5.n (by omega) (by simp)).trans gt8
     have sc9:=s9.rd.cells
     have hF9:∀ j,j∈F9→h8.n≤j∧j<h9.n:=fun j hj=>⟨by
      rcases f9.new j hj with e | e
      ·simp at e
      ·omega,s9.lt j hj⟩
     have f59:=(f57.trans (f9.wide (G:=[]) (G':=[]) (fun j hj=>by simp at hj) (fun j hj=>by simp at hj) (by simp))).setTmp (i:=h5.n) (Nat.le_refl _) (.cells 0 false [.int .i64 f.params,sv',rv',cv])
     have t8:SlOf (h9.set h5.n (.cells 0 false [.int .i64 f.params,sv',rv',cv])) 1 encK sv' f.slots F7:=s8.frame n9 fun j hj=>by
      have:=hF7 j hj
      rw [AHeap.get_set_ne _ _ (by omega),f9.get j (by omega) (by simp)]
     have t9:SlOf (h9.set h5.n (.cells 0 false [.int .i64 f.params,sv',rv',cv])) 1 encK rv' f.results F9:=s9.frame (Nat.le_refl _) fun j hj=>AHeap.get_set_ne _ _ (by have:=hF9 j hj;omega)
     have gta:(h9.set h5.n (.cells 0 false [.int .i64 f.params,sv',rv',cv])).get h5.n=.cells 0 false [.int .i64 f.params,sv',rv',cv]:=AHeap.get_set_same _ _ _
     have na:(h9.set h5.n (.cells 0 false [.int .i64 f.params,sv',rv',cv])).n=h9.n:=rfl
     simp -implicitDefEqProofs (disch:=first|exact dz _|fail) only [↓AM.R0,AM.R1,AM.R2,qA,qB,qC,qD,qE,↓reduceIte,qG,qH,qI,y1,y2,y3,y32,y34,gt9,sc9.1,sc9.2]
     generalize h9.set h5.n (.cells 0 false [.int .i64 f.params,sv',rv',cv])=ha at *
     refine AM.opI_of (app_nil ((lcr.mono hf.n fun j hj=>hf.get j hj (by simp)).mono f59.n fun j hj=>f59.get j hj (by simp)) (fun a=>a.2.1) (fun a _=>a.2.2) (by omega) fun cv' hb Fb sb fb=>?_)
     have nb:=fb.n
     have gtb:=(fb.get h5.n (by omega) (by simp)).trans gta
     have scb:=sb.rd.cells
     have hFb:∀ j,j∈Fb→ha.n≤j∧j<hb.n:=fun j hj=>⟨by
      rcases fb.new j hj with e | e
      ·simp at e
      ·omega,sb.lt j hj⟩
     have f5b:=(f59.trans (fb.wide (G:=[]) (G':=[]) (fun j hj=>by simp at hj) (fun j hj=>by simp at hj) (by simp))).setTmp (i:=h5.n) (Nat.le_refl _) (.cells 0 false [.int .i64 f.params,sv',rv',cv'])
     have ub:SlOf (hb.set h5.n (.cells 0 false [.int .i64 f.params,sv',rv',cv'])) 6 (fun r:Row 6=>r.1) cv' rs Fb:=sb.frame (Nat.le_refl _) fun j hj=>AHeap.get_set_ne _ _ (by have:=hFb j hj;omega)
     have u8:SlOf (hb.set h5.n (.cells 0 false [.int .i64 f.params,sv',rv',cv'])) 1 encK sv' f.slots F7:=t8.frame nb fun j hj=>by
      have:=hF7 j hj
      rw [AHeap.get_set_ne _ _ (by omega),fb.get j (by omega) (by simp)]
     have u9:SlOf (hb.set h5.n (.cells 0 false [.int .i64 f.params,sv',rv',cv'])) 1 encK rv' f.results F9:=t9.frame nb fun j hj=>by
      have:=hF9 j hj
      rw [AHeap.get_set_ne _ _ (by omega),fb.get j (by omega) (by simp)]
     have gtc:(hb.set h5.n (.cells 0 false [.int .i64 f.params,sv',rv',cv'])).get h5.n=.cells 0 false [.int .i64 f.params,sv',rv',cv']:=AHeap.get_set_same _ _ _
     have nc:(hb.set h5.n (.cells 0 false [.int .i64 f.params,sv',rv',cv'])).n=hb.n:=rfl
     have ubl:∀ h',lenV h' cv'=some (.int .i64 (f.code.length:Int),h'):=fun h'=>by rw [←hrl];exact ub.len h'
     simp -implicitDefEqProofs (disch:=first|exact dz _|fail) only [↓AM.R0,AM.R1,AM.R2,qA,qB,qC,qD,qE,↓reduceIte,qG,qH,qI,y1,y2,y3,y32,y34,gtb,scb.1,scb.2,ubl]
     generalize hb.set h5.n (.cells 0 false [.int .i64 f.params,sv',rv',cv'])=hc' at *
     refine AM.loopI_of (fun cy e h10=>∃ (y:Nat) (G:List Nat) (rs':List (Row 6)),cy+y=f.code.length∧e.val 1=.ptr h.n 0 0∧e.val 2=.ptr (h.n+1) 0 0∧e.val 3=.ptr q 0 0∧e.val 32=fv∧e.val 33=.int .i64 (p.funcs.length:Int)∧e.val 34=.int .i64 (i:Int)∧e.val 7=.ptr h5.n 0 0∧e.val 52=.int .i64 (f.code.length:Int)∧e.val 53=.int .i64 (y:Int) ∧
      HFrame h5 h10 [] []∧hb.n≤h10.n∧h10.get h5.n=.cells 0 false [.int .i64 f.params,sv',rv',cv']∧SlOf h10 6 (fun r:Row 6=>r.1) cv' rs' Fb∧SlOf h10 1 encK sv' f.slots F7∧SlOf h10 1 encK rv' f.results F9∧rs'.length=f.code.length ∧
      (∀ (j:Nat) (a:PIns) (r:Row 6),f.code[j]?=some a→rs'[j]?=some r→if j<y then InsO h10 (KS G) a r.1 else InsR h a r.1)∧∀ j,j∈G→hb.n≤j∧j<h10.n) f.code.length ?_ ?_
     ·refine ⟨0,[],rs,by omega,?_,?_,?_,?_,?_,?_,?_,?_,?_,f5b,by omega,gtc,ub,u8,u9,hrl,fun j a r h1 h2=>?_,by simp⟩<;>first | (simp -implicitDefEqProofs (disch:=first|exact dz _|fail) only [↓AM.R0,AM.R1,AM.R2,qA,qB,qC,qD,qE,↓reduceIte,qG,qH,qI,y1,y2,y3,y32,y33,y34];done) | (simp -implicitDefEqProofs (disch:=first|exact dz _|fail) only [↓AM.R0,AM.R1,AM.R2,qA,qB,qC,qD,qE,↓reduceIte,qG,qH,qI,y1,y2,y3,y32,y33,y34];rfl) | skip
      rw [if_neg (by omega)]
      exact hrs j a r h1 h2
     ·rintro cy e h10 ⟨y,G,rs',hcy,z1,z2,z3,z32,z33,z34,z7,z52,z53,f10,n10,gt10,ub,u8,u9,hrl',hrel,hG⟩
      simp -implicitDefEqProofs (disch:=first|exact dz _|fail) only [↓AM.R0,AM.R1,AM.R2,qA,qB,qC,qD,qE,↓reduceIte,qG,qH,qI,z52,z53]
      refine AM.cI_bool (fun hc2=>?_) (fun hc2=>?_)
      ·simp only [decide_eq_true_eq] at hc2
       obtain ⟨a,ha'⟩:∃ a,f.code[y]?=some a:=⟨_,List.getElem?_eq_getElem (by omega)⟩
       obtain ⟨rr,hrr⟩:∃ rr,rs'[y]?=some rr:=⟨_,List.getElem?_eq_getElem (by omega)⟩
       have hin:=hrel y a rr ha' hrr
       rw [if_neg (by omega)] at hin
       obtain ⟨himm,lw,hrow,ll⟩:=hin
       have k4:=SlIn.cellv ll
       obtain ⟨idc,gc',oc,vsc,ev,e2,e3,e4,e5,e6,e7,e8⟩:=SlOf.updC ub (fun r=>r.2.1) hrr (c:=5) (by omega)
       have e9:vsc[oc+y*6+5]?=some lw:=by rw [row_at e7 (by omega),hrow];rfl
       have hid:∀ j,j∈Fb→j=idc:=fun j hj=>by rw [e5] at hj;simpa using hj
       have hidb:idc∈Fb:=by rw [e5];simp
       have hidn:=hFb idc hidb
       have wy:IntKind.i64.wrap ((y:Int)+1)=((y+1:Nat):Int):=(wrap64 (by omega) (by omega)).trans (by omega)
       have cb:=ub.beq
       simp -implicitDefEqProofs (disch:=first|exact dz _|fail) only [↓AM.R0,AM.R1,AM.R2,qA,qB,qC,qD,qE,↓reduceIte,qG,qH,qI,z1,z2,z3,z32,z33,z34,z7,z52,z53,gt10,e6,e2,e9]
       refine AM.trOp_of (app_nil ((ll.mono hf.n fun j hj=>hf.get j hj (by simp)).mono f10.n fun j hj=>f10.get j hj (by simp)) (fun _=>rfl) (fun _ _=>rfl) (by have:=m4 a (List.mem_of_getElem? ha');omega) fun lw' h11 F11 s11 f11=>?_)
       have n11:=f11.n
       have gt11:=(f11.get h5.n (by omega) (by simp)).trans gt10
       have lc11:=s11.rd.cells
       have hF11:∀ j,j∈F11→h10.n≤j∧j<h11.n:=fun j hj=>⟨by
        rcases f11.new j hj with e | e
        ·simp at e
        ·exact e,s11.lt j hj⟩
       have e2':=(f11.get idc e3 (by simp)).trans e2
       have e6':=fun k=>ix_keep (h':=h11) (e6 k) (f11.get idc e3 (by simp))
       have ub11:=ub.frame n11 fun j hj=>f11.get j (ub.lt j hj) (by simp)
       obtain ⟨idc2,gc2,oc2,vsc2,ev2,b2,b3,b4,b5,b6,b7,b8⟩:=SlOf.updC ub11 (fun r=>r.2.1) hrr (c:=5) (by omega)
       have hev:=ev.symm.trans ev2
       simp only [AVal.sl.injEq,and_true] at hev
       obtain ⟨rfl,rfl,rfl,_⟩:=hev
       have hvs:=e2'.symm.trans b2
       simp only [AObj.cells.injEq,true_and] at hvs
       subst hvs
       have hlid:idc<h11.n:=by omega
       have ne2:h5.n≠idc:=by omega
       simp -implicitDefEqProofs (disch:=first|exact dz _|fail) only [↓AM.R0,AM.R1,AM.R2,qA,qB,qC,qD,qE,↓reduceIte,qG,qH,qI,z1,z2,z3,z32,z33,z34,z7,z52,z53,gt10,gt11,e6',e2',lc11.1,lc11.2,cb,ne2,b4,wy]
       have hcell:(rr.1.set 5 lw').all (·.cell)=true:=by
        rw [hrow]
        have:=rr.2.2
        rw [hrow] at this
        simp only [List.all_cons,List.all_nil,Bool.and_true,Bool.and_eq_true] at this
        simp only [List.set_cons_succ,List.set_cons_zero,List.all_cons,List.all_nil,Bool.and_true,Bool.and_eq_true]
        exact ⟨this.1,this.2.1,this.2.2.1,this.2.2.2.1,this.2.2.2.2.1,lc11.2⟩
       have Cg:Chg (·=.no) h10 (h11.set idc (.cells gc' false (vsc.take (oc+y*6+5)++[lw']++vsc.drop (oc+y*6+5+1)))) (KS G) (KS (G++F11)):=(KS.chg f11 (by simp) fun j hj=>(hF11 j hj).1).set (fun _=>KS.out fun hm=>by have:=hG idc hm;omega) _
       have s12:SlOf (h11.set idc (.cells gc' false (vsc.take (oc+y*6+5)++[lw']++vsc.drop (oc+y*6+5+1)))) 1 encK lw' a.list F11:=s11.frame (Nat.le_refl _) fun j hj=>AHeap.get_set_ne _ _ (by have:=hF11 j hj;omega)
       refine ⟨cy-1,by omega,y+1,G++F11,rs'.set y ⟨rr.1.set 5 lw',by rw [List.length_set];exact rr.2.1,hcell⟩,by omega,rfl,(f10.trans (f11.wide (G:=[]) (G':=[]) (fun j hj=>by simp at hj) (fun j hj=>by simp at hj) (by simp))).setTmp (by omega) _,by omega,b8 lw' _ rfl,u8.frame n11 fun j hj=>?_,u9.frame n11 fun j hj=>?_,by rw [List.length_set];exact hrl',fun j a' r' h1' h2'=>?_,fun j hj=>?_⟩
       ·have:=hF7 j hj
        rw [AHeap.get_set_ne _ _ (by omega),f11.get j (u8.lt j hj) (by simp)]
       ·have:=hF9 j hj
        rw [AHeap.get_set_ne _ _ (by omega),f11.get j (u9.lt j hj) (by simp)]
       ·by_cases ej:y=j
        ·subst ej
         rw [List.getElem?_set_self (by omega)] at h2'
         rw [ha'] at h1'
         cases h1';cases h2'
         rw [if_pos (by omega)]
         exact ⟨lw',by show rr.1.set 5 lw'=_;rw [hrow];rfl,SlOf.ro s12 fun j hj=>by simp [hj]⟩
        ·rw [List.getElem?_set_ne ej] at h2'
         have:=hrel j a' r' h1' h2'
         by_cases ey:j<y
         ·rw [if_pos ey] at this
          rw [if_pos (by omega)]
          exact this.keep Cg Tag.noConfusion
         ·rw [if_neg ey] at this
          rw [if_neg (by omega)]
          exact this
       ·rcases List.mem_append.1 hj with m | m
        ·have:=hG j m;show _∧j<h11.n;omega
        ·have:=hF11 j m;show _∧j<h11.n;omega
      ·simp only [decide_eq_false_iff_not] at hc2
       obtain rfl:y=f.code.length:=by omega
       have n5:h5.n≤h10.n:=f10.n
       have gq10:=(f10.get q hqn (by simp)).trans hq
       have ne1:q≠h5.n:=by omega
       have hF8:∀ j,j∈F7++F9++Fb++G→h5.n≤j∧j<h10.n:=fun j hj=>by
        simp only [List.mem_append] at hj
        rcases hj with ((hj | hj) | hj) | hj
        ·have:=hF7 j hj;omega
        ·have:=hF9 j hj;omega
        ·have:=hFb j hj;omega
        ·have:=hG j hj;omega
       have scc:=u8.rd.cells
       have rcc:=u9.rd.cells
       have ccc:=ub.rd.cells
       have hin:∀ {j:Nat},j∈F7++F9++Fb++G→j∈S++(F7++F9++Fb++G):=fun h=>List.mem_append_right _ h
       have row:FuncO h10 (KS (S++(F7++F9++Fb++G))) f [.int .i64 f.params,sv',rv',cv'] :=
        ⟨sv',rv',cv',rfl,SlOf.ro u8 fun j hj=>hin (by simp [hj]),SlOf.ro u9 fun j hj=>hin (by simp [hj]),RowsOf.slK (R:=InsO h10 (KS (S++(F7++F9++Fb++G)))) ⟨rs',ub,hrl',fun j a r h1 h2=>by
         have hj:=(List.getElem?_eq_some_iff.1 h1).1
         have:=hrel j a r h1 h2
         rw [if_pos hj] at this
         exact this.more fun i hi=>by
          unfold KS at hi ⊢
          split at hi
          ·rename_i c;exact if_pos (hin (by simp [c]))
          ·cases hi⟩ (fun j hj=>KS.in (hin (by simp [hj]))) fun _ _ q=>q⟩
       simp -implicitDefEqProofs (disch:=first|exact dz _|fail) only [↓AM.R0,AM.R1,AM.R2,qA,qB,qC,qD,qE,↓reduceIte,qG,qH,qI,z1,z2,z3,z32,z33,z34,z7,gt10,gq10,scc.2,rcc.2,ccc.2]
       refine AM.opI_of ((O.funcs8 f10 hF8).app1 (by rw [List.length_take];omega) (a:=f) (row:=[.int .i64 f.params,sv',rv',cv']) rfl (by simp only [List.all_cons,scc.2,rcc.2,ccc.2];rfl) row fun fq' h12 Ff' s12 f12=>?_)
       have O':=O.fnc f10 hF8 hfn f12 s12
       have gq12:h12.get q=.cells 0 false [tq,gq,fq]:=by
        rw [f12.get q (by omega) (fun hm=>(O.Ff0 q hm).2.2.2.2.1 rfl)];exact gq10
       have n12:=f12.n
       have tc:=s12.cells
       simp -implicitDefEqProofs (disch:=first|exact dz _|fail) only [↓AM.R0,AM.R1,AM.R2,qA,qB,qC,qD,qE,↓reduceIte,qG,qH,qI,z1,z2,z3,z32,z33,z34,gq12,tc.1,tc.2,wi]
       exact ⟨c-1,by omega,i+1,_,_,fq',by omega,rfl,O'⟩
    ·simp only [decide_eq_false_iff_not] at hc
     have hi:i=p.funcs.length:=by omega
     subst hi
     have hq:=O.obj
     have hqn:=O.ids.2.2.2
     have hr:=O.res
     have hrn:h.n+1<h5.n:=by have:=O.ids;omega
     have tc:=O.types.cells
     have fc:=O.funcs.cells
     have gc5:=O.globals.now.cells
     have ne1:q≠h.n+1:=by have:=O.ids;omega
     simp -implicitDefEqProofs (disch:=first|exact dz _|fail) only [↓AM.R0,AM.R1,AM.R2,qA,qB,qC,qD,qE,↓reduceIte,qG,qH,qI,y1,y2,y3,hq,hr,tc.1,tc.2,fc.1,fc.2,gc5.1,gc5.2]
     subst hQ
     have cF:Chg (·=.no) h5 (h5.set (h.n+1) (.cells 0 false [tq,gq,fq])) (KS S) (KS S):=(Chg.refl (·=Tag.no) h5 (KS S)).set (fun _=>KS.out fun hm=>(O.S0 _ hm).2.2.2.1 rfl) _
     have mr:∀ j,KS S j=.ro→KS (S++(Ft++Ff)) j=.ro:=fun j hj=>KS.more hj
     have ty:RowsOf (h5.set (h.n+1) (.cells 0 false [tq,gq,fq])) 2 (TypeO h5 (KS S)) tq p.types Ft:=by
      have:=O.types.set (i:=h.n+1) (fun hm=>(O.Ft0 _ hm).2.2.2.1 rfl) (.cells 0 false [tq,gq,fq])
      rwa [List.take_length] at this
     have fy:RowsOf (h5.set (h.n+1) (.cells 0 false [tq,gq,fq])) 4 (FuncO h5 (KS S)) fq p.funcs Ff:=by
      have:=O.funcs.set (i:=h.n+1) (fun hm=>(O.Ff0 _ hm).2.2.2.1 rfl) (.cells 0 false [tq,gq,fq])
      rwa [List.take_length] at this
     refine ⟨tq,gq,fq,S++(Ft++Ff),rfl,O.f.setTmp (by omega) _,⟨RowsOf.slK ty (fun j hj=>KS.in (by simp [hj])) fun _ _ q=>(q.keep cF Tag.noConfusion).more mr,(O.globals.keep cF Tag.noConfusion).more mr,RowsOf.slK fy (fun j hj=>KS.in (by simp [hj])) fun _ _ q=>(q.keep cF Tag.noConfusion).more mr⟩,fun j hj=>?_⟩
     simp only [List.mem_append] at hj
     show _∧j<h5.n
     rcases hj with hj | hj | hj
     ·have:=O.S0 j hj;omega
     ·have:=O.Ft0 j hj;omega
     ·have:=O.Ff0 j hj;omega
end
end Go.Proofs.Ytnbnpjhlflcjeaa.Id
namespace Go.Proofs.Ytnbnpjhlflcjeaa.Id
open Go Go.AM Go.Proofs.Ytnbnpjhlflcjeaa.AmGB
open Nat renaming reduceAdd → qA,reduceLeDiff → qB,reduceEqDiff → qC,reduceLT → qE
open Int renaming reduceToNat → qD,reduceEq → qG,reduceLT → qH,reduceLE → qI
section
variable {h h' h1:AHeap} {γ:GI} {R:Run}
theorem res_tc (e:Env) (h:AHeap) (t u:Nat) (n:Option Nat):((resOf ⟨e,h⟩ [.tmp t,.cell u n]).map fun v=>(v,h))=((aop e h (.load n (.tmp u))).map fun p=>(.tup [e.val t,p.1],h)):=by
 simp only [resOf,resVals,resVal]
 cases aop e h (.load n (.tmp u))<;>rfl
theorem ms_things (h:AHeap):msV h 3 40 [.int .i64 0,.nils,.nilp] (.int .i64 1)=some (.sl h.n 0 0 1 3,h.push (.cells 0 false [.int .i64 0,.nils,.nilp])):=by
 simp only [msV]
 rw [if_pos ⟨by omega,by decide,by decide⟩]
 rfl
set_option maxHeartbeats 16000000 in
theorem newOk {p:PProg} {row:List AVal} (RR:ProgR h p row) (ok:p.Ok) (hl:limP p=true) (hc:(V.checkF p).1=0) {R':Run} (hn:Run.new p=some R') :
  CallP AP 14 [.agg row] h fun v h'=>∃ γ,v=.tup [.ptr γ.d 0 0,.agg [.int .i64 0,.int .i64 0,.int .i64 0]]∧RunP h' γ R'∧HFrame h h' [] []∧∀ j,j<h.n→γ.K j=.no:=by
 obtain ⟨l1,l2,l3,l4,l5⟩:=limP_get hl
 have RR0:=RR
 have rc:=ProgR.cellv RR
 obtain ⟨tv,gv,fv,rfl,RT,RG,RF⟩:=RR
 refine callP (rfl:Tr.get AP 14=some A14) ?_
 generalize hQ:(fun (r:AVal) (h':AHeap)=>_)=Q
 have c1:=SlR.cellv RT
 have c2:=SlIn.cellv RG
 have c3:=SlR.cellv RF
 have f0:=((HFrame.refl (h:=h) (F:=[]) (by simp)).pushTmp (.cells 0 false [tv,gv,fv])).pushTmp (.cells 0 false [.int .i64 0,.int .i64 0,.int .i64 0])
 have g0:((h.push (.cells 0 false [tv,gv,fv])).push (.cells 0 false [.int .i64 0,.int .i64 0,.int .i64 0])).get h.n=.cells 0 false [tv,gv,fv]:=by rw [AHeap.get_push_ne _ _ (by simp)];exact AHeap.get_push_same _ _
 have e0:((h.push (.cells 0 false [tv,gv,fv])).push (.cells 0 false [.int .i64 0,.int .i64 0,.int .i64 0])).get (h.n+1)=.cells 0 false [.int .i64 0,.int .i64 0,.int .i64 0]:=AHeap.get_push_same (h.push _) _
 have n0:((h.push (.cells 0 false [tv,gv,fv])).push (.cells 0 false [.int .i64 0,.int .i64 0,.int .i64 0])).n=h.n+2:=rfl
 simp -implicitDefEqProofs (disch:=first|exact dz _|fail) only [↓AM.R0,AM.R1,AM.R2,qA,qB,qC,qD,qE,↓reduceIte,qG,qH,qI,c1,c2,c3]
 generalize (h.push (.cells 0 false [tv,gv,fv])).push (.cells 0 false [.int .i64 0,.int .i64 0,.int .i64 0])=h1 at *
 refine AM.callI_of (V.check (RR0.keep f0) ok) ?_
 rintro r h2 ⟨f2,rfl⟩
 have f02:=f0.trans f2
 have n2:=f2.n
 have g2:=(f2.get h.n (by omega) (by simp)).trans g0
 have e2:=(f2.get (h.n+1) (by omega) (by simp)).trans e0
 have f03:=(f02.pushTmp (.cells 0 false [.int .i64 0,.int .i64 0,.int .i64 0])).setTmp (i:=h2.n) (by omega) (.cells 0 false [.int .i64 (V.checkF p).1,.int .i64 (V.checkF p).2.1,.int .i64 (V.checkF p).2.2])
 have g3:((h2.push (.cells 0 false [.int .i64 0,.int .i64 0,.int .i64 0])).set h2.n (.cells 0 false [.int .i64 (V.checkF p).1,.int .i64 (V.checkF p).2.1,.int .i64 (V.checkF p).2.2])).get h.n=.cells 0 false [tv,gv,fv]:=by rw [AHeap.get_set_ne _ _ (by omega),AHeap.get_push_ne _ _ (by omega)];exact g2
 have e3:((h2.push (.cells 0 false [.int .i64 0,.int .i64 0,.int .i64 0])).set h2.n (.cells 0 false [.int .i64 (V.checkF p).1,.int .i64 (V.checkF p).2.1,.int .i64 (V.checkF p).2.2])).get (h.n+1)=.cells 0 false [.int .i64 0,.int .i64 0,.int .i64 0]:=by rw [AHeap.get_set_ne _ _ (by omega),AHeap.get_push_ne _ _ (by omega)];exact e2
 have n3:((h2.push (.cells 0 false [.int .i64 0,.int .i64 0,.int .i64 0])).set h2.n (.cells 0 false [.int .i64 (V.checkF p).1,.int .i64 (V.checkF p).2.1,.int .i64 (V.checkF p).2.2])).n=h2.n+1:=rfl
 have d1:(!decide ((V.checkF p).1=0))=false:=by simp [hc]
 simp -implicitDefEqProofs (disch:=first|exact dz _|fail) only [↓AM.R0,AM.R1,AM.R2,qA,qB,qC,qD,qE,↓reduceIte,qG,qH,qI,d1,g2]
 generalize (h2.push (.cells 0 false [.int .i64 0,.int .i64 0,.int .i64 0])).set h2.n (.cells 0 false [.int .i64 (V.checkF p).1,.int .i64 (V.checkF p).2.1,.int .i64 (V.checkF p).2.2])=h3 at *
 refine AM.trCall_of (own (RR0.keep f03) hl) ?_
 rintro r h4 ⟨tv',gv',fv',S,rfl,f4,PO,hS⟩
 have f04:=f03.trans f4
 have n4:=f4.n
 have g4:=(f4.get h.n (by omega) (by simp)).trans g3
 have e4:=(f4.get (h.n+1) (by omega) (by simp)).trans e3
 have ms:=fun h=>ms_u64 h p.globals.length l2
 have gl:=RG.len
 have tc:=PO.t.cell
 have gc:=PO.g.now.cells
 have fc:=PO.f.cell
 have mt:=ms_things
 have gvb:=SlIn.beqv RG
 simp -implicitDefEqProofs (disch:=first|exact dz _|fail) only [↓AM.R0,AM.R1,AM.R2,qA,qB,qC,qD,qE,↓reduceIte,qG,qH,qI,g3,g4,gl,ms,mt,tc,gc.1,gc.2,fc,gvb]
 have P0:RunP (((h4.push (.cells 0 false (List.replicate p.globals.length (.int .u64 0)))).push (.cells 0 false [.int .i64 0,.nils,.nilp])).push (.cells 0 false [tv',gv',fv',.sl h4.n 0 0 p.globals.length 1,.sl (h4.n+1) 0 0 1 3,.nils,.int .u64 0,.nils,.bool false,.int .i64 0]))
   { d:=h4.n+1+1,K:=fun j=>if j∈S then .ro else if j=h4.n then .globals else if j=h4.n+1 then .things else if j=h4.n+2 then .d else .no,gs:=[],th:=[(0,.nils,.nilp)],tv:=tv',gv:=gv',fv:=fv',glv:=.sl h4.n 0 0 p.globals.length 1,thv:=.sl (h4.n+1) 0 0 1 3,gsv:=.nils,trv:=.nils }
   { p:=p,globals:=zeros p.globals.length,things:=[⟨0,[],none⟩],gs:=[],clock:=0,trace:=[],ended:=false,g:=0 }:=by
  have hSn:∀ j,j∈S→j<h4.n:=fun j hj=>(hS j hj).2
  have ck:Chg (fun _=>False) h4 (((h4.push (.cells 0 false (List.replicate p.globals.length (.int .u64 0)))).push (.cells 0 false [.int .i64 0,.nils,.nilp])).push (.cells 0 false [tv',gv',fv',.sl h4.n 0 0 p.globals.length 1,.sl (h4.n+1) 0 0 1 3,.nils,.int .u64 0,.nils,.bool false,.int .i64 0])) (KS S) (fun j=>if j∈S then .ro else if j=h4.n then .globals else if j=h4.n+1 then .things else if j=h4.n+2 then .d else .no) :=
   ((((Chg.refl _ h4 (KS S)).push _).push _).push _).tag fun j hj=>by
    show (if _ then _ else _)=KS S j
    unfold KS
    by_cases c:j∈S
    ·rw [if_pos c,if_pos c]
    ·rw [if_neg c,if_neg c,if_neg (by omega),if_neg (by omega),if_neg (by omega)]
  refine ⟨fun j hj=>?_,?_,AHeap.get_push_same ((h4.push _).push _) _,PO.keep ck (fun q=>q),⟨[h4.n],.inr ⟨h4.n,0,0,_,by simp [zeros],by rw [AHeap.get_push_ne _ _ (by simp;omega),AHeap.get_push_ne _ _ (by simp)];exact AHeap.get_push_same _ _,by simp;omega,by simp [zeros],by simp [zeros,flatP],rfl⟩,fun j hj=>?_⟩,⟨[h4.n+1],.inr ⟨h4.n+1,0,0,_,rfl,by rw [AHeap.get_push_ne _ _ (by simp)];exact AHeap.get_push_same (h4.push _) _,by simp,by simp,by simp,rfl⟩,fun j hj=>?_⟩,All2.nil.snoc (l:=[]) (m:=[]) ⟨rfl,Ow.nil,rfl⟩,Ow.nil,All2.nil,Ow.nil⟩
  ·simp only at hj
   by_cases c:j∈S
   ·have:=hSn j c;simp;omega
   ·by_cases c1:j=h4.n
    ·simp;omega
    ·by_cases c2:j=h4.n+1
     ·simp;omega
     ·by_cases c3:j=h4.n+2
      ·simp;omega
      ·rw [if_neg c,if_neg c1,if_neg c2,if_neg c3] at hj;exact absurd rfl hj
  ·dsimp only
   rw [if_neg (fun hm=>by have:=hSn _ hm;omega),if_neg (by omega),if_neg (by omega),if_pos rfl]
  ·obtain rfl:j=h4.n:=by simpa using hj
   show (if _ then _ else _)=_
   rw [if_neg (fun hm=>by have:=hSn _ hm;omega),if_pos rfl]
  ·obtain rfl:j=h4.n+1:=by simpa using hj
   show (if _ then _ else _)=_
   rw [if_neg (fun hm=>by have:=hSn _ hm;omega),if_neg (by omega),if_pos rfl]
 have f05:=((f04.pushTmp (.cells 0 false (List.replicate p.globals.length (.int .u64 0)))).pushTmp (.cells 0 false [.int .i64 0,.nils,.nilp])).pushTmp (.cells 0 false [tv',gv',fv',.sl h4.n 0 0 p.globals.length 1,.sl (h4.n+1) 0 0 1 3,.nils,.int .u64 0,.nils,.bool false,.int .i64 0])
 have e5:(((h4.push (.cells 0 false (List.replicate p.globals.length (.int .u64 0)))).push (.cells 0 false [.int .i64 0,.nils,.nilp])).push (.cells 0 false [tv',gv',fv',.sl h4.n 0 0 p.globals.length 1,.sl (h4.n+1) 0 0 1 3,.nils,.int .u64 0,.nils,.bool false,.int .i64 0])).get (h.n+1)=.cells 0 false [.int .i64 0,.int .i64 0,.int .i64 0]:=by rw [AHeap.get_push_ne _ _ (by simp;omega),AHeap.get_push_ne _ _ (by simp;omega),AHeap.get_push_ne _ _ (by omega)];exact e4
 have n5:(((h4.push (.cells 0 false (List.replicate p.globals.length (.int .u64 0)))).push (.cells 0 false [.int .i64 0,.nils,.nilp])).push (.cells 0 false [tv',gv',fv',.sl h4.n 0 0 p.globals.length 1,.sl (h4.n+1) 0 0 1 3,.nils,.int .u64 0,.nils,.bool false,.int .i64 0])).n=h4.n+3:=rfl
 have k0:∀ j,j<h3.n→(if j∈S then Tag.ro else if j=h4.n then .globals else if j=h4.n+1 then .things else if j=h4.n+2 then .d else .no)=Tag.no:=fun j hj=>by
  rw [if_neg (fun hm=>by have:=hS j hm;omega),if_neg (by omega),if_neg (by omega),if_neg (by omega)]
 generalize (((h4.push (.cells 0 false (List.replicate p.globals.length (.int .u64 0)))).push (.cells 0 false [.int .i64 0,.nils,.nilp])).push (.cells 0 false [tv',gv',fv',.sl h4.n 0 0 p.globals.length 1,.sl (h4.n+1) 0 0 1 3,.nils,.int .u64 0,.nils,.bool false,.int .i64 0]))=h5 at *
 refine AM.callI_of (beginG P0 (args:=[]) (.inl ⟨rfl,rfl⟩) hn) ?_
 rintro v h6 ⟨γ6,P6,N6⟩
 have e6:=(N6.c.get (h.n+1) (by omega) (fun q=>q (k0 _ (by omega)))).trans e5
 have n6:=N6.c.n
 simp -implicitDefEqProofs (disch:=first|exact dz _|fail) only [↓AM.R0,AM.R1,AM.R2,qA,qB,qC,qD,qE,↓reduceIte,qG,qH,qI,e6,res_tc]
 subst hQ
 have hd:γ6.d=h4.n+1+1:=N6.d
 refine ⟨γ6,by rw [hd],P6.keep ((Chg.refl (·=.no) h6 γ6.K).set (fun _=>(N6.c.k _ (by omega)).trans (k0 _ (by omega))) _) (fun t ht q=>ht q),⟨by show h.n≤h6.n;omega,by show h6.g=h.g;rw [N6.c.g,f05.g],fun j hj _=>?_,by simp,by simp⟩,fun j hj=>(N6.c.k j (by omega)).trans (k0 j (by omega))⟩
 rw [AHeap.get_set_ne _ _ (by omega),N6.c.get j (by omega) (fun q=>q (k0 j (by omega))),f05.get j hj (by simp)]
end
end Go.Proofs.Ytnbnpjhlflcjeaa.Id
namespace Go.Proofs.Ytnbnpjhlflcjeaa.Id
open Go Go.AM Go.Proofs.Ytnbnpjhlflcjeaa.AmGB
open Nat renaming reduceAdd → qA,reduceLeDiff → qB,reduceEqDiff → qC,reduceLT → qE
open Int renaming reduceToNat → qD,reduceEq → qG,reduceLT → qH,reduceLE → qI
section
variable {h h' h1:AHeap} {γ:GI} {R:Run}
theorem endedG (P:RunP h γ R):CallP AP 16 [.ptr γ.d 0 0] h fun v h'=>v=.bool R.ended∧h'=h:=by
 refine callP (rfl:Tr.get AP 16=some A16) ?_
 generalize hQ:(fun (r:AVal) (h':AHeap)=>_)=Q
 have ho:=P.obj
 have hlt:=P.ltd
 simp -implicitDefEqProofs (disch:=first|exact dz _|fail) only [↓AM.R0,AM.R1,AM.R2,qA,qB,qC,qD,qE,↓reduceIte,qG,qH,qI,ho]
 subst hQ
 exact ⟨rfl,rfl⟩
theorem gsG (P:RunP h γ R):CallP AP 46 [.ptr γ.d 0 0] h fun v h'=>v=.int .i64 (R.gs.length:Nat)∧h'=h:=by
 refine callP (rfl:Tr.get AP 46=some A46) ?_
 generalize hQ:(fun (r:AVal) (h':AHeap)=>_)=Q
 have ho:=P.obj
 have hlt:=P.ltd
 have hgl:=P.gs.len
 have eg:(γ.gs.map (·.1)).length=R.gs.length:=by rw [List.length_map];exact P.gsAll.1
 rw [eg] at hgl
 simp -implicitDefEqProofs (disch:=first|exact dz _|fail) only [↓AM.R0,AM.R1,AM.R2,qA,qB,qC,qD,qE,↓reduceIte,qG,qH,qI,ho,hgl]
 subst hQ
 exact ⟨rfl,rfl⟩
def Run.stateOf (d:Run) (g:Int):Int:=match at? d.gs g with
 | some r=>r.state
 | none=>0
theorem stateG (P:RunP h γ R) (g:Int):CallP AP 24 [.ptr γ.d 0 0,.int .i64 g] h fun v h'=>v=.int .i64 (R.stateOf g)∧h'=h:=by
 refine callP (rfl:Tr.get AP 24=some A24) ?_
 generalize hQ:(fun (r:AVal) (h':AHeap)=>_)=Q
 have ho:=P.obj
 have hlt:=P.ltd
 have hgl:=P.gs.len
 have eg:(γ.gs.map (·.1)).length=R.gs.length:=by rw [List.length_map];exact P.gsAll.1
 rw [eg] at hgl
 by_cases c1:g<0
 ·have d1:decide (g<0)=true:=decide_eq_true c1
  have hn:at? R.gs g=none:=by unfold at?;rw [if_neg (by omega)]
  simp -implicitDefEqProofs (disch:=first|exact dz _|fail) only [↓AM.R0,AM.R1,AM.R2,qA,qB,qC,qD,qE,↓reduceIte,qG,qH,qI,d1]
  subst hQ
  exact ⟨by unfold Run.stateOf;rw [hn],rfl⟩
 have d1:decide (g<0)=false:=decide_eq_false c1
 by_cases c2:(R.gs.length:Int)≤g
 ·have d2:decide ((R.gs.length:Int)≤g)=true:=decide_eq_true c2
  have hn:at? R.gs g=none:=by unfold at?;rw [if_pos (by omega)];exact List.getElem?_eq_none (by omega)
  simp -implicitDefEqProofs (disch:=first|exact dz _|fail) only [↓AM.R0,AM.R1,AM.R2,qA,qB,qC,qD,qE,↓reduceIte,qG,qH,qI,d1,ho,hgl,d2]
  subst hQ
  exact ⟨by unfold Run.stateOf;rw [hn],rfl⟩
 have d2:decide ((R.gs.length:Int)≤g)=false:=decide_eq_false c2
 obtain ⟨r,hr⟩:∃ r,R.gs[g.toNat]?=some r:=⟨_,List.getElem?_eq_getElem (by omega)⟩
 have hra:at? R.gs g=some r:=by unfold at?;rw [if_pos (by omega)];exact hr
 obtain ⟨x,fv,hx,s⟩:=P.rt hr
 have hro:=s.obj
 have hrlt:=s.lt
 have hgx:at? (γ.gs.map (·.1)) g=some x.1:=by unfold at?;rw [if_pos (by omega),List.getElem?_map,hx];rfl
 obtain ⟨id,gn,off,vs,x1,x2,x3,x4⟩:=P.gs.ix (enc:=fun id=>.ptr id 0 0) hgx
 simp -implicitDefEqProofs (disch:=first|exact dz _|fail) only [↓AM.R0,AM.R1,AM.R2,qA,qB,qC,qD,qE,↓reduceIte,qG,qH,qI,d1,ho,hgl,d2,x1,x2,x4,hro]
 subst hQ
 exact ⟨by unfold Run.stateOf;rw [hra],rfl⟩
theorem traceG (P:RunP h γ R) (hb:R.trace.length<1000000):CallP AP 18 [.ptr γ.d 0 0] h fun v h'=>∃ F,SlOf h' 3 encE v R.trace F∧HFrame h h' [] F:=by
 refine callP (rfl:Tr.get AP 18=some A18) ?_
 generalize hQ:(fun (r:AVal) (h':AHeap)=>_)=Q
 have ho:=P.obj
 have hlt:=P.ltd
 simp -implicitDefEqProofs (disch:=first|exact dz _|fail) only [↓AM.R0,AM.R1,AM.R2,qA,qB,qC,qD,qE,↓reduceIte,qG,qH,qI,ho]
 refine AM.opI_of (app_nil (.inl P.trace.rd) (fun _=>rfl) (fun _ _=>rfl) (by omega) fun v' h' F' s' f'=>?_)
 simp -implicitDefEqProofs (disch:=first|exact dz _|fail) only [↓AM.R0,AM.R1,AM.R2,qA,qB,qC,qD,qE,↓reduceIte,qG,qH,qI]
 subst hQ
 exact ⟨F',s',f'⟩
set_option maxHeartbeats 2000000 in
theorem sameTrace {v w:AVal} {l m:List (Int×Int×Int)} (A:SlRd h 3 encE v l) (B:SlRd h 3 encE w m) (hb:l.length<1000000):CallP AP 19 [v,w] h fun r h'=>r=.bool (decide (l=m))∧h'=h:=by
 refine callP (rfl:Tr.get AP 19=some A19) ?_
 generalize hQ:(fun (r:AVal) (h':AHeap)=>_)=Q
 have la:=A.len
 have lb:=B.len
 by_cases c1:(l.length:Int)=m.length
 ·have d1:decide ((l.length:Int)=m.length)=true:=decide_eq_true c1
  simp -implicitDefEqProofs (disch:=first|exact dz _|fail) only [↓AM.R0,AM.R1,AM.R2,qA,qB,qC,qD,qE,↓reduceIte,qG,qH,qI,la,lb,d1]
  refine AM.loopI_of (fun k e h5=>∃ z:Nat,k+z=l.length∧h5=h∧e.val 0=v∧e.val 1=w∧e.val 5=.int .i64 (z:Int)∧l.take z=m.take z) l.length ?_ ?_
  ·refine ⟨0,by omega,rfl,?_,?_,?_,by simp⟩<;>(simp -implicitDefEqProofs (disch:=first|exact dz _|fail) only [↓AM.R0,AM.R1,AM.R2,qA,qB,qC,qD,qE,↓reduceIte,qG,qH,qI])<;>rfl
  ·rintro k e h5 ⟨z,hk,rfl,y0,y1,y5,ht⟩
   simp -implicitDefEqProofs (disch:=first|exact dz _|fail) only [↓AM.R0,AM.R1,AM.R2,qA,qB,qC,qD,qE,↓reduceIte,qG,qH,qI,y0,y1,y5,la]
   refine AM.cI_bool (fun hc=>?_) (fun hc=>?_)
   ·simp only [decide_eq_true_eq] at hc
    obtain ⟨x,hx⟩:∃ x,l[z]?=some x:=⟨_,List.getElem?_eq_getElem (by omega)⟩
    obtain ⟨y,hy⟩:∃ y,m[z]?=some y:=⟨_,List.getElem?_eq_getElem (by omega)⟩
    obtain ⟨id1,g1,o1,vs1,ro1,a1,a2,a3,a4,a5⟩:=SlRd.ixA A (fun _=>rfl) (at?_of hx)
    obtain ⟨id2,g2,o2,vs2,ro2,b1,b2,b3,b4,b5⟩:=SlRd.ixA B (fun _=>rfl) (at?_of hy)
    have a4':o1+3≤vs1.length:=a4
    have b4':o2+3≤vs2.length:=b4
    have wz:IntKind.i64.wrap ((z:Int)+1)=((z+1:Nat):Int):=(wrap64 (by omega) (by omega)).trans (by omega)
    simp -implicitDefEqProofs (disch:=first|exact dz _|fail) only [↓AM.R0,AM.R1,AM.R2,qA,qB,qC,qD,qE,↓reduceIte,qG,qH,qI,y0,y1,y5,a1,a2,a4,a5,b1,b2,b4,b5]
    refine AM.cI_bool (fun hd=>?_) (fun hd=>?_)
    ·simp -implicitDefEqProofs (disch:=first|exact dz _|fail) only [↓AM.R0,AM.R1,AM.R2,qA,qB,qC,qD,qE,↓reduceIte,qG,qH,qI]
     subst hQ
     refine ⟨?_,rfl⟩
     have:¬ x=y:=fun e=>by subst e;simp at hd
     congr 1
     symm
     rw [decide_eq_false_iff_not]
     rintro rfl
     rw [hx] at hy;cases hy
     exact this rfl
    ·have hxy:x=y:=by
      obtain ⟨x1,x2,x3⟩:=x
      obtain ⟨y1',y2,y3⟩:=y
      simp at hd
      simp [hd]
     subst hxy
     simp -implicitDefEqProofs (disch:=first|exact dz _|fail) only [↓AM.R0,AM.R1,AM.R2,qA,qB,qC,qD,qE,↓reduceIte,qG,qH,qI,y0,y1,y5,wz]
     exact ⟨k-1,by omega,z+1,by omega,rfl,by rw [take_succ_of hx,take_succ_of hy,ht]⟩
   ·simp only [decide_eq_false_iff_not] at hc
    rw [List.take_of_length_le (by omega),List.take_of_length_le (by omega)] at ht
    simp -implicitDefEqProofs (disch:=first|exact dz _|fail) only [↓AM.R0,AM.R1,AM.R2,qA,qB,qC,qD,qE,↓reduceIte,qG,qH,qI]
    subst hQ
    exact ⟨by rw [ht];simp,rfl⟩
 ·have d1:decide ((l.length:Int)=m.length)=false:=decide_eq_false c1
  simp -implicitDefEqProofs (disch:=first|exact dz _|fail) only [↓AM.R0,AM.R1,AM.R2,qA,qB,qC,qD,qE,↓reduceIte,qG,qH,qI,la,lb,d1]
  subst hQ
  refine ⟨?_,rfl⟩
  congr 1
  symm
  rw [decide_eq_false_iff_not]
  rintro rfl
  exact c1 rfl
def firstReady:List Routine→Nat→Option Nat
 | [],_=>none
 | r::l,n=>if r.state=1 then some n else firstReady l (n+1)
theorem firstReady_drop {l:List Routine} {z:Nat} {r:Routine} (h:l[z]?=some r):firstReady (l.drop z) z=if r.state=1 then some z else firstReady (l.drop (z+1)) (z+1):=by
 have hi:=List.getElem?_eq_some_iff.1 h
 have e:l.drop z=r::l.drop (z+1):=by rw [List.drop_eq_getElem_cons hi.1,hi.2]
 rw [e];rfl
def shownN:Nat→Int→Run→Option Run
 | 0,_,d=>some d
 | n+1,i,d=>(lim d.gs 1000000).bind fun _=>if d.ended then some d else match firstReady d.gs 0 with
  | none=>shownN n (i+1) d
  | some k=>(d.step k (u64 i)).bind fun x=>shownN n (i+1) x.2
set_option maxHeartbeats 4000000 in
theorem shown {p:PProg} {row:List AVal} (RR:ProgR h p row) (ok:p.Ok) (hl:limP p=true) (hc:(V.checkF p).1=0) {R0 R1:Run} (hn:Run.new p=some R0) {steps:Nat} (hs:steps<1000000) (hp:shownN steps 0 R0=some R1) (hb:R1.trace.length<1000000) :
  CallP AP 22 [.agg row,.int .i64 (steps:Nat)] h fun v h'=>∃ F,SlOf h' 3 encE v R1.trace F∧HFrame h h' [] F:=by
 have rc:=ProgR.cellv RR
 have RR0:=RR
 obtain ⟨tv,gv,fv,rfl,RT,RG,RF⟩:=RR
 refine callP (rfl:Tr.get AP 22=some A22) ?_
 generalize hQ:(fun (r:AVal) (h':AHeap)=>_)=Q
 have c1:=SlR.cellv RT
 have c2:=SlIn.cellv RG
 have c3:=SlR.cellv RF
 have f0:=(HFrame.refl (h:=h) (F:=[]) (by simp)).pushTmp (.cells 0 false [tv,gv,fv])
 have g0:(h.push (.cells 0 false [tv,gv,fv])).get h.n=.cells 0 false [tv,gv,fv]:=AHeap.get_push_same _ _
 have n0:(h.push (.cells 0 false [tv,gv,fv])).n=h.n+1:=rfl
 simp -implicitDefEqProofs (disch:=first|exact dz _|fail) only [↓AM.R0,AM.R1,AM.R2,qA,qB,qC,qD,qE,↓reduceIte,qG,qH,qI,c1,c2,c3]
 generalize h.push (.cells 0 false [tv,gv,fv])=h1 at *
 refine AM.callI_of (newOk (RR0.keep f0) ok hl hc hn) ?_
 rintro r h2 ⟨γ,rfl,P2,f2,hK⟩
 have n2:=f2.n
 have F3:=((f0.trans f2).pushTmp (.cells 0 false [.int .i64 0,.int .i64 0,.int .i64 0])).setTmp (i:=h2.n) (by omega) (.cells 0 false [.int .i64 0,.int .i64 0,.int .i64 0])
 have P3:=P2.tmp (Chg.tmp h2 γ.K (.cells 0 false [.int .i64 0,.int .i64 0,.int .i64 0]) (.cells 0 false [.int .i64 0,.int .i64 0,.int .i64 0]))
 simp -implicitDefEqProofs (disch:=first|exact dz _|fail) only [↓AM.R0,AM.R1,AM.R2,qA,qB,qC,qD,qE,↓reduceIte,qG,qH,qI]
 generalize ((h2.push (.cells 0 false [.int .i64 0,.int .i64 0,.int .i64 0])).set h2.n (.cells 0 false [.int .i64 0,.int .i64 0,.int .i64 0]))=h3 at *
 refine AM.loopI_of (fun c e h5=>∃ (i:Nat) (γ5:GI) (R5:Run),c+i=steps∧e.val 1=.int .i64 (steps:Int)∧e.val 5=.ptr γ.d 0 0∧e.val 7=.int .i64 (i:Int)∧RunP h5 γ5 R5∧Nxt h3 h5 γ γ5∧shownN c (i:Int) R5=some R1) steps ?_ ?_
 ·refine ⟨0,γ,R0,by omega,?_,?_,?_,P3,Nxt.refl _ _,hp⟩<;>(simp -implicitDefEqProofs (disch:=first|exact dz _|fail) only [↓AM.R0,AM.R1,AM.R2,qA,qB,qC,qD,qE,↓reduceIte,qG,qH,qI])<;>rfl
 ·rintro c e h5 ⟨i,γ5,R5,hci,y1,y5,y7,P5,N5,hsh⟩
  have fin:∀ R6:Run,R6=R1→RunP h5 γ5 R6→CallP AP 18 [.ptr γ.d 0 0] h5 fun v h'=>∃ F,SlOf h' 3 encE v R1.trace F∧HFrame h h' [] F:=fun R6 e6 P6=>by
   subst e6
   have:=traceG P6 hb
   rw [N5.d] at this
   refine this.mono ?_
   rintro v h' ⟨F,s,f⟩
   have nn:=N5.c.n
   have n3:=F3.n
   exact ⟨F,s,by have:=f.n;omega,by rw [f.g,N5.c.g,F3.g],fun j hj _=>by rw [f.get j (by omega) (by simp),N5.c.get j (by omega) (fun q=>q (hK j (by omega))),F3.get j hj (by simp)],fun j hj=>.inr (by
    rcases f.new j hj with q | q
    ·simp at q
    ·omega),f.lt⟩
  by_cases c1:(i:Int)<steps
  ·have d1:decide ((i:Int)<steps)=true:=decide_eq_true c1
   obtain ⟨c,rfl⟩:∃ c',c=c'+1:=⟨c-1,by omega⟩
   simp only [shownN,Option.bind_eq_some_iff] at hsh
   obtain ⟨_,hgl,hsh⟩:=hsh
   have hgl:=lim_lt hgl
   have hend:=endedG P5
   rw [N5.d] at hend
   simp -implicitDefEqProofs (disch:=first|exact dz _|fail) only [↓AM.R0,AM.R1,AM.R2,qA,qB,qC,qD,qE,↓reduceIte,qG,qH,qI,y1,y5,y7,d1]
   refine AM.callI_of hend ?_
   rintro v h6 ⟨rfl,rfl⟩
   cases c2:R5.ended with
   | true =>
    rw [if_pos c2] at hsh
    simp only [Option.some.injEq] at hsh
    simp -implicitDefEqProofs (disch:=first|exact dz _|fail) only [↓AM.R0,AM.R1,AM.R2,qA,qB,qC,qD,qE,↓reduceIte,qG,qH,qI,y1,y5,y7]
    refine AM.callI_of (fin _ hsh P5) ?_
    rintro v h' ⟨F,s,f⟩
    simp -implicitDefEqProofs (disch:=first|exact dz _|fail) only [↓AM.R0,AM.R1,AM.R2,qA,qB,qC,qD,qE,↓reduceIte,qG,qH,qI]
    subst hQ
    exact ⟨F,s,f⟩
   | false =>
    rw [if_neg (by rw [c2];simp)] at hsh
    have hgs:=gsG P5
    rw [N5.d] at hgs
    have wi:IntKind.i64.wrap ((i:Int)+1)=((i+1:Nat):Int):=(wrap64 (by omega) (by omega)).trans (by omega)
    simp -implicitDefEqProofs (disch:=first|exact dz _|fail) only [↓AM.R0,AM.R1,AM.R2,qA,qB,qC,qD,qE,↓reduceIte,qG,qH,qI,y1,y5,y7]
    refine AM.callI_of hgs ?_
    rintro v h7 ⟨rfl,rfl⟩
    simp -implicitDefEqProofs (disch:=first|exact dz _|fail) only [↓AM.R0,AM.R1,AM.R2,qA,qB,qC,qD,qE,↓reduceIte,qG,qH,qI,y1,y5,y7]
    refine AM.loopI_of (fun cz e h8=>∃ z:Nat,cz+z=R5.gs.length∧h8=h7∧e.val 1=.int .i64 (steps:Int)∧e.val 5=.ptr γ.d 0 0∧e.val 7=.int .i64 (i:Int)∧e.val 32=.int .i64 (R5.gs.length:Int)∧e.val 33=.int .i64 (z:Int)∧firstReady R5.gs 0=firstReady (R5.gs.drop z) z) R5.gs.length ?_ ?_
    ·refine ⟨0,by omega,rfl,?_,?_,?_,?_,?_,rfl⟩<;>(simp -implicitDefEqProofs (disch:=first|exact dz _|fail) only [↓AM.R0,AM.R1,AM.R2,qA,qB,qC,qD,qE,↓reduceIte,qG,qH,qI,y1,y5,y7])<;>rfl
    ·rintro cz e h8 ⟨z,hcz,rfl,y1,y5,y7,y32,y33,hfr⟩
     simp -implicitDefEqProofs (disch:=first|exact dz _|fail) only [↓AM.R0,AM.R1,AM.R2,qA,qB,qC,qD,qE,↓reduceIte,qG,qH,qI,y32,y33]
     refine AM.cI_bool (fun hc=>?_) (fun hc=>?_)
     ·simp only [decide_eq_true_eq] at hc
      obtain ⟨r,hr⟩:∃ r,R5.gs[z]?=some r:=⟨_,List.getElem?_eq_getElem (by omega)⟩
      have hst:R5.stateOf (z:Int)=r.state:=by unfold Run.stateOf;rw [at?_of hr]
      have wz:IntKind.i64.wrap ((z:Int)+1)=((z+1:Nat):Int):=(wrap64 (by omega) (by omega)).trans (by omega)
      rw [firstReady_drop hr] at hfr
      have hsg:=stateG P5 (z:Int)
      rw [N5.d,hst] at hsg
      simp -implicitDefEqProofs (disch:=first|exact dz _|fail) only [↓AM.R0,AM.R1,AM.R2,qA,qB,qC,qD,qE,↓reduceIte,qG,qH,qI,y1,y5,y7,y32,y33]
      refine AM.callI_of hsg ?_
      rintro v h9 ⟨rfl,rfl⟩
      by_cases c3:r.state=1
      ·rw [if_pos c3] at hfr
       rw [hfr] at hsh
       simp only [Option.bind_eq_some_iff] at hsh
       obtain ⟨⟨er,R6⟩,hst6,hsh⟩:=hsh
       have d3:decide (r.state=1)=true:=decide_eq_true c3
       have hstep:=step P5 hst6
       rw [N5.d] at hstep
       unfold u64 at hstep
       simp -implicitDefEqProofs (disch:=first|exact dz _|fail) only [↓AM.R0,AM.R1,AM.R2,qA,qB,qC,qD,qE,↓reduceIte,qG,qH,qI,y1,y5,y7,y32,y33,d3]
       refine AM.callI_of hstep ?_
       rintro v h10 ⟨rfl,γ6,P6,N6⟩
       simp -implicitDefEqProofs (disch:=first|exact dz _|fail) only [↓AM.R0,AM.R1,AM.R2,qA,qB,qC,qD,qE,↓reduceIte,qG,qH,qI,y1,y5,y7,wi]
       exact ⟨c,by omega,i+1,γ6,R6,by omega,rfl,P6,N5.trans N6,by simpa using hsh⟩
      ·rw [if_neg c3] at hfr
       have d3:decide (r.state=1)=false:=decide_eq_false c3
       simp -implicitDefEqProofs (disch:=first|exact dz _|fail) only [↓AM.R0,AM.R1,AM.R2,qA,qB,qC,qD,qE,↓reduceIte,qG,qH,qI,y1,y5,y7,y32,y33,d3,wz]
       exact ⟨cz-1,by omega,z+1,by omega,rfl,hfr⟩
     ·simp only [decide_eq_false_iff_not] at hc
      rw [List.drop_of_length_le (by omega)] at hfr
      rw [hfr] at hsh
      simp only [firstReady] at hsh
      simp -implicitDefEqProofs (disch:=first|exact dz _|fail) only [↓AM.R0,AM.R1,AM.R2,qA,qB,qC,qD,qE,↓reduceIte,qG,qH,qI,y1,y5,y7,wi]
      exact ⟨c,by omega,i+1,γ5,R5,by omega,rfl,P5,N5,by simpa using hsh⟩
  ·have d1:decide ((i:Int)<steps)=false:=decide_eq_false c1
   obtain rfl:c=0:=by omega
   simp only [shownN,Option.some.injEq] at hsh
   simp -implicitDefEqProofs (disch:=first|exact dz _|fail) only [↓AM.R0,AM.R1,AM.R2,qA,qB,qC,qD,qE,↓reduceIte,qG,qH,qI,y1,y5,y7,d1]
   refine AM.callI_of (fin _ hsh P5) ?_
   rintro v h' ⟨F,s,f⟩
   simp -implicitDefEqProofs (disch:=first|exact dz _|fail) only [↓AM.R0,AM.R1,AM.R2,qA,qB,qC,qD,qE,↓reduceIte,qG,qH,qI]
   subst hQ
   exact ⟨F,s,f⟩
end
end Go.Proofs.Ytnbnpjhlflcjeaa.Id
namespace Go.Proofs.Ytnbnpjhlflcjeaa.Id
open Go Go.AM Go.Proofs.Ytnbnpjhlflcjeaa.AmGB
open Nat renaming reduceAdd → qA,reduceLeDiff → qB,reduceEqDiff → qC,reduceLT → qE
open Int renaming reduceToNat → qD,reduceEq → qG,reduceLT → qH,reduceLE → qI
def All2R {α:Type} (R:α→List AVal→Prop):List α→List (List AVal)→Prop
 | [],[]=>True
 | a::l,r::rs=>R a r∧All2R R l rs
 | _,_=>False
theorem All2R.at {α:Type} {R:α→List AVal→Prop}:∀ {l:List α} {rs:List (List AVal)},All2R R l rs→l.length=rs.length∧∀ (i:Nat) (a:α) (row:List AVal),l[i]?=some a→rs[i]?=some row→R a row
 | [],[],_=>⟨rfl,fun i a row h=>by simp at h⟩
 | a::l,r::rs,h=>by
  obtain ⟨h1,h2⟩:=h
  obtain ⟨e,q⟩:=All2R.at h2
  refine ⟨by simp [e],fun i b row hb hr=>?_⟩
  cases i with
  | zero=>simp at hb hr;subst hb hr;exact h1
  | succ i=>simp at hb hr;exact q i b row hb hr
 | [],_::_,h=>h.elim
 | _::_,[],h=>h.elim
theorem SlR.lit {α:Type} {h:AHeap} {m id:Nat} {ro:Bool} {R:α→List AVal→Prop} {l:List α} {rows:List (List AVal)} {vs:List AVal} (hg:h.get id=.cells 0 ro vs) (hv:vs=rows.flatten) (lt:id<h.n) (hr:∀ row,row∈rows→row.length=m) (q:All2R R l rows):SlR h m R (.sl id 0 0 l.length m) l:=by
 subst hv
 obtain ⟨e,q'⟩:=q.at
 have hf:rows.flatten.length=rows.length*m:=by
  clear hg q q' e
  induction rows with
  | nil=>simp
  | cons r rs ih=>simp only [List.flatten_cons,List.length_append,List.length_cons];rw [ih fun row hm=>hr row (List.mem_cons_of_mem _ hm),hr r List.mem_cons_self,Nat.add_mul];omega
 exact .inr (.inr ⟨id,0,0,rows.flatten,ro,rows,rfl,hg,lt,by rw [hf,e];omega,by rw [List.drop_zero,List.take_of_length_le (by rw [hf,e];exact Nat.le_refl _)],e.symm,hr,q'⟩)
theorem SlIn.lit {h:AHeap} {id:Nat} {ro:Bool} {l:List Int} {vs:List AVal} (hg:h.get id=.cells 0 ro vs) (hv:vs=l.map fun n=>.int .i64 n) (lt:id<h.n):SlIn h 1 encK (.sl id 0 0 l.length 1) l:=by
 subst hv
 have fl:∀ l:List Int,l.flatMap encK=l.map fun n=>.int .i64 n:=fun l=>by induction l<;>simp_all
 exact .inl (.inr ⟨id,0,0,_,ro,rfl,hg,lt,by simp,by rw [fl,List.drop_zero,List.take_of_length_le (by simp)]⟩)
theorem SlIn.nilI {h:AHeap}:SlIn h 1 encK .nils ([]:List Int):=.inl (.inl ⟨rfl,rfl⟩)
def okI (i:PIns):Bool:=decide (i.op≤mx)&&decide (i.a≤mx)&&decide (i.b≤mx)&&decide (i.c≤mx)&&decide (i.imm≤18446744073709551615)&&i.list.all fun x=>decide (x≤mx)
def okF (f:PFunc):Bool:=decide (f.params≤mx)&&f.slots.all (fun x=>decide (x≤mx))&&f.results.all (fun x=>decide (x≤mx))&&f.code.all okI
def okP (p:PProg):Bool:=p.types.all (fun t=>t.2.all fun x=>decide (x≤mx))&&p.globals.all (fun x=>decide (x≤mx))&&p.funcs.all okF
theorem okP_ok {p:PProg} (h:okP p=true):p.Ok:=by
 simp only [okP,okF,okI,Bool.and_eq_true,List.all_eq_true,decide_eq_true_eq] at h
 obtain ⟨⟨h1,h2⟩,h3⟩:=h
 refine ⟨h1,h2,fun f hf=>?_⟩
 obtain ⟨⟨⟨a,b⟩,c⟩,d⟩:=h3 f hf
 refine ⟨a,b,c,fun i hi=>?_⟩
 obtain ⟨⟨⟨⟨⟨q1,q2⟩,q3⟩,q4⟩,q5⟩,q6⟩:=d i hi
 exact ⟨q1,q2,q3,q4,q5,q6⟩
def goodP (p:PProg):Bool:=okP p&&limP p&&decide ((V.checkF p).1=0)
theorem goodP_get {p:PProg} (h:goodP p=true):p.Ok∧limP p=true∧(V.checkF p).1=0:=by
 simp only [goodP,Bool.and_eq_true,decide_eq_true_eq] at h
 exact ⟨okP_ok h.1.1,h.1.2,h.2⟩
def showF (p:PProg) (steps:Nat):Option (List (Int×Int×Int)):=(Run.new p).bind fun R0=>(shownN steps 0 R0).bind fun R1=>if R1.trace.length<1000000 then some R1.trace else none
section
variable {h h' h1:AHeap} {γ:GI} {R:Run}
theorem shownS {p:PProg} {row:List AVal} (RR:ProgR h p row) (g:goodP p=true) {steps:Nat} (hs:steps<1000000) {t:List (Int×Int×Int)} (hp:showF p steps=some t) :
  CallP AP 22 [.agg row,.int .i64 (steps:Nat)] h fun v h'=>∃ F,SlOf h' 3 encE v t F∧HFrame h h' [] F:=by
 obtain ⟨g1,g2,g3⟩:=goodP_get g
 simp only [showF,Option.bind_eq_some_iff] at hp
 obtain ⟨R0,hn,R1,hsh,hp⟩:=hp
 split at hp
 ·rename_i hb
  cases hp
  exact shown RR g1 g2 g3 hn hs hsh hb
 ·cases hp
def pAwake:PProg:=⟨[],[],[⟨0,[0],[],[⟨1,0,0,0,7,[]⟩,⟨48,0,0,0,0,[]⟩,⟨36,0,0,0,0,[]⟩]⟩]⟩
end
end Go.Proofs.Ytnbnpjhlflcjeaa.Id
namespace Go.Proofs.Ytnbnpjhlflcjeaa.Id
open Go Go.AM Go.Proofs.Ytnbnpjhlflcjeaa.AmGB
open Nat renaming reduceAdd → qA,reduceLeDiff → qB,reduceEqDiff → qC,reduceLT → qE
open Int renaming reduceToNat → qD,reduceEq → qG,reduceLT → qH,reduceLE → qI
def cellsOf (o:AObj):Option (List AVal):=match o with
 | .cells 0 _ vs=>some vs
 | _=>none
def rdS (h:AHeap) (m:Nat) (v:AVal):Option (List AVal):=match v with
 | .nils=>some []
 | .sl id 0 0 n c=>if c=m∧id<h.n then (cellsOf (h.get id)).bind fun vs=>if vs.length=n*m then some vs else none else none
 | _=>none
def intsV:List AVal→Option (List Int)
 | []=>some []
 | .int .i64 x::l=>(intsV l).bind fun m=>some (x::m)
 | _=>none
def rdI (h:AHeap) (v:AVal):Option (List Int):=(rdS h 1 v).bind intsV
def inssV (h:AHeap):List AVal→Option (List PIns)
 | []=>some []
 | .int .i64 a::.int .i64 b::.int .i64 c::.int .i64 d::.int .u64 n::v::l=>if 0≤n∧n≤18446744073709551615 then (rdI h v).bind fun li=>(inssV h l).bind fun m=>some (⟨a,b,c,d,n.toNat,li⟩::m) else none
 | _=>none
def typsV (h:AHeap):List AVal→Option (List (Bool×List Int))
 | []=>some []
 | .bool b::v::l=>(rdI h v).bind fun li=>(typsV h l).bind fun m=>some ((b,li)::m)
 | _=>none
def funsV (h:AHeap):List AVal→Option (List PFunc)
 | []=>some []
 | .int .i64 a::sv::rv::cv::l=>(rdI h sv).bind fun s=>(rdI h rv).bind fun r=>((rdS h 6 cv).bind (inssV h)).bind fun c=>(funsV h l).bind fun m=>some (⟨a,s,r,c⟩::m)
 | _=>none
def rdP (h:AHeap):List AVal→Option PProg
 | [tv,gv,fv]=>((rdS h 2 tv).bind (typsV h)).bind fun t=>(rdI h gv).bind fun g=>((rdS h 4 fv).bind (funsV h)).bind fun f=>some ⟨t,g,f⟩
 | _=>none
theorem rdS_nil (h:AHeap) (m:Nat):rdS h m .nils=some []:=rfl
theorem rdS_sl {h:AHeap} {m id n:Nat} {ro:Bool} {vs:List AVal} (g:h.get id=.cells 0 ro vs) (lt:id<h.n) (e:vs.length=n*m):rdS h m (.sl id 0 0 n m)=some vs:=by
 simp only [rdS,g,cellsOf,Option.bind,e,lt,and_self,if_true]
section
variable {h:AHeap}
theorem rdS_cases {m:Nat} {v:AVal} {vs:List AVal} (e:rdS h m v=some vs):(v=.nils∧vs=[])∨∃ id n ro,v=.sl id 0 0 n m∧h.get id=.cells 0 ro vs∧id<h.n∧vs.length=n*m:=by
 simp only [rdS] at e
 split at e
 ·cases e;exact .inl ⟨rfl,rfl⟩
 ·rename_i id n c
  split at e
  ·rename_i q
   obtain ⟨rfl,lt⟩:=q
   simp only [Option.bind_eq_some_iff] at e
   obtain ⟨ws,e1,e2⟩:=e
   split at e2
   ·rename_i hl
    cases e2
    simp only [cellsOf] at e1
    split at e1
    ·rename_i o ro us g
     cases e1
     exact .inr ⟨id,n,ro,rfl,g,lt,hl⟩
    ·cases e1
   ·cases e2
  ·cases e
 ·cases e
theorem slR_of {α:Type} {m:Nat} (hm:0<m) {R:α→List AVal→Prop} {v:AVal} {vs:List AVal} {l:List α} {rows:List (List AVal)} (e:rdS h m v=some vs) (hv:vs=rows.flatten) (hr:∀ row,row∈rows→row.length=m) (q:All2R R l rows):SlR h m R v l:=by
 have hf:∀ rows:List (List AVal),(∀ row,row∈rows→row.length=m)→rows.flatten.length=rows.length*m:=by
  intro rows hr
  induction rows with
  | nil=>simp
  | cons r rs ih=>simp only [List.flatten_cons,List.length_append,List.length_cons];rw [ih fun row hm=>hr row (List.mem_cons_of_mem _ hm),hr r List.mem_cons_self,Nat.add_mul];omega
 have e':=q.at.1
 rcases rdS_cases e with ⟨rfl,hz⟩ | ⟨id,n,ro,rfl,g,lt,hl⟩
 ·have hz':rows.length=0:=by
   have:=hf rows hr
   rw [←hv,hz] at this
   simp only [List.length_nil] at this
   exact (Nat.mul_eq_zero.1 this.symm).resolve_right (by omega)
  have:l=[]:=List.eq_nil_of_length_eq_zero (by omega)
  exact .inl ⟨rfl,this⟩
 ·have hn:n=l.length:=by
   have:=hf rows hr
   rw [←hv,hl] at this
   rw [e'];exact Nat.eq_of_mul_eq_mul_right hm this
  subst hn
  exact SlR.lit g hv lt hr q
theorem rdI_ok {v:AVal} {l:List Int} (e:rdI h v=some l):SlIn h 1 encK v l:=by
 simp only [rdI,Option.bind_eq_some_iff] at e
 obtain ⟨vs,e1,e2⟩:=e
 have hv:vs=l.map fun n=>.int .i64 n:=by
  clear e1
  induction vs generalizing l with
  | nil=>cases e2;rfl
  | cons a vs ih =>
   unfold intsV at e2
   split at e2
   ·rename_i q;cases q
   ·rename_i x t q
    cases q
    simp only [Option.bind_eq_some_iff] at e2
    obtain ⟨m,e3,e4⟩:=e2
    cases e4
    rw [ih e3];rfl
   ·cases e2
 rcases rdS_cases e1 with ⟨rfl,hz⟩ | ⟨id,n,ro,rfl,g,lt,hl⟩
 ·have:l=[]:=by cases l with | nil=>rfl | cons a l=>rw [hz] at hv;cases hv
  subst this;exact SlIn.nilI
 ·have hn:n=l.length:=by rw [hv] at hl;simpa using hl.symm
  subst hn
  exact SlIn.lit g hv lt
theorem inssV_ok:∀ {vs:List AVal} {l:List PIns},inssV h vs=some l→∃ rows,vs=rows.flatten∧(∀ row,row∈rows→row.length=6)∧All2R (InsR h) l rows
 | vs,l,e=>by
  unfold inssV at e
  split at e
  ·cases e;exact ⟨[],rfl,by simp,trivial⟩
  ·rename_i a b c d n v t
   split at e
   ·rename_i hn
    simp only [Option.bind_eq_some_iff] at e
    obtain ⟨li,e1,m,e2,e3⟩:=e
    cases e3
    obtain ⟨rows,h1,h2,h3⟩:=inssV_ok e2
    refine ⟨[.int .i64 a,.int .i64 b,.int .i64 c,.int .i64 d,.int .u64 n,v]::rows,by rw [h1];rfl,fun row hm=>?_,⟨?_,h3⟩⟩
    ·rcases List.mem_cons.1 hm with rfl | hm
     ·rfl
     ·exact h2 _ hm
    ·refine ⟨by show n.toNat≤_;omega,v,?_,rdI_ok e1⟩
     show _=[AVal.int .i64 a,.int .i64 b,.int .i64 c,.int .i64 d,.int .u64 (n.toNat:Nat),v]
     rw [Int.toNat_of_nonneg hn.1]
   ·cases e
  ·cases e
 termination_by vs=>vs.length
theorem typsV_ok:∀ {vs:List AVal} {l:List (Bool×List Int)},typsV h vs=some l→∃ rows,vs=rows.flatten∧(∀ row,row∈rows→row.length=2)∧All2R (TypeR h) l rows
 | vs,l,e=>by
  unfold typsV at e
  split at e
  ·cases e;exact ⟨[],rfl,by simp,trivial⟩
  ·rename_i b v t
   simp only [Option.bind_eq_some_iff] at e
   obtain ⟨li,e1,m,e2,e3⟩:=e
   cases e3
   obtain ⟨rows,h1,h2,h3⟩:=typsV_ok e2
   refine ⟨[.bool b,v]::rows,by rw [h1];rfl,fun row hm=>?_,⟨⟨v,rfl,rdI_ok e1⟩,h3⟩⟩
   rcases List.mem_cons.1 hm with rfl | hm
   ·rfl
   ·exact h2 _ hm
  ·cases e
 termination_by vs=>vs.length
theorem funsV_ok:∀ {vs:List AVal} {l:List PFunc},funsV h vs=some l→∃ rows,vs=rows.flatten∧(∀ row,row∈rows→row.length=4)∧All2R (FuncR h) l rows
 | vs,l,e=>by
  unfold funsV at e
  split at e
  ·cases e;exact ⟨[],rfl,by simp,trivial⟩
  ·rename_i a sv rv cv t
   simp only [Option.bind_eq_some_iff] at e
   obtain ⟨s,e1,r,e2,c,⟨us,e3,e4⟩,m,e5,e6⟩:=e
   cases e6
   obtain ⟨rows,h1,h2,h3⟩:=funsV_ok e5
   obtain ⟨rows',k1,k2,k3⟩:=inssV_ok e4
   refine ⟨[.int .i64 a,sv,rv,cv]::rows,by rw [h1];rfl,fun row hm=>?_,⟨⟨sv,rv,cv,rfl,rdI_ok e1,rdI_ok e2,slR_of (by decide) e3 k1 k2 k3⟩,h3⟩⟩
   rcases List.mem_cons.1 hm with rfl | hm
   ·rfl
   ·exact h2 _ hm
  ·cases e
 termination_by vs=>vs.length
theorem rdC_ok {v:AVal} {l:List PIns} (e:(rdS h 6 v).bind (inssV h)=some l):SlR h 6 (InsR h) v l:=by
 simp only [Option.bind_eq_some_iff] at e
 obtain ⟨us,e3,e4⟩:=e
 obtain ⟨rows',k1,k2,k3⟩:=inssV_ok e4
 exact slR_of (by decide) e3 k1 k2 k3
theorem rdP_ok {row:List AVal} {p:PProg} (e:rdP h row=some p):ProgR h p row:=by
 unfold rdP at e
 split at e
 ·rename_i tv gv fv
  simp only [Option.bind_eq_some_iff] at e
  obtain ⟨t,⟨us,e1,e2⟩,g,e3,f,⟨ws,e4,e5⟩,e6⟩:=e
  cases e6
  obtain ⟨rows,h1,h2,h3⟩:=typsV_ok e2
  obtain ⟨rows',k1,k2,k3⟩:=funsV_ok e5
  exact ⟨tv,gv,fv,rfl,slR_of (by decide) e1 h1 h2 h3,rdI_ok e3,slR_of (by decide) e4 k1 k2 k3⟩
 ·cases e
end
end Go.Proofs.Ytnbnpjhlflcjeaa.Id
namespace Go.Proofs.Ytnbnpjhlflcjeaa.Id
open Go Go.AM Go.Proofs.Ytnbnpjhlflcjeaa.AmGB
open Nat renaming reduceAdd → qA,reduceLeDiff → qB,reduceEqDiff → qC,reduceLT → qE
open Int renaming reduceToNat → qD,reduceEq → qG,reduceLT → qH,reduceLE → qI
theorem pAwake_good:goodP pAwake=true:=by decide +kernel
theorem rAwake_get:∃ R0 R1 R2 R3 R4,Run.new pAwake=some R0∧R0.step 0 0=some (0,R1)∧R1.step 0 0=some (0,R2)∧R2.step 1 0=some (4,R3)∧R3.step 0 0=some (0,R4)∧R4.ended=true∧R4.trace=[(1,0,7),(3,0,0)]:=by
 let f:Option (Run×Int×Run×Int×Run×Int×Run×Int×Run):=(Run.new pAwake).bind fun R0=>(R0.step 0 0).bind fun a=>(a.2.step 0 0).bind fun b=>(b.2.step 1 0).bind fun c=>(c.2.step 0 0).bind fun d=>some (R0,a.1,a.2,b.1,b.2,c.1,c.2,d.1,d.2)
 have hf:(f.map fun x=>(x.2.1,x.2.2.2.1,x.2.2.2.2.2.1,x.2.2.2.2.2.2.2.1,x.2.2.2.2.2.2.2.2.ended,x.2.2.2.2.2.2.2.2.trace))=some (0,0,4,0,true,[(1,0,7),(3,0,0)]):=by rfl
 simp only [Option.map_eq_some_iff,f,Option.bind_eq_some_iff] at hf
 obtain ⟨x,⟨R0,h0,a,h1,b,h2,c,h3,d,h4,h5⟩,h6⟩:=hf
 cases h5
 obtain ⟨a1,a2⟩:=a
 obtain ⟨b1,b2⟩:=b
 obtain ⟨c1,c2⟩:=c
 obtain ⟨d1,d2⟩:=d
 simp only [Prod.mk.injEq] at h6
 obtain ⟨rfl,rfl,rfl,rfl,e1,e2⟩:=h6
 exact ⟨R0,a2,b2,c2,d2,h0,h1,h2,h3,h4,e1,e2⟩
theorem HFrame.nxt {h h1 h2:AHeap} {γ γ':GI} (f:HFrame h h1 [] []) (N:Nxt h1 h2 γ γ') (hK:∀ j,j<h.n→γ.K j=.no):HFrame h h2 [] [] :=
 ⟨by have:=f.n;have:=N.c.n;omega,by rw [N.c.g,f.g],fun j hj _=>by rw [N.c.get j (by have:=f.n;omega) (fun q=>q (hK j hj)),f.get j hj (by simp)],fun j hj=>by simp at hj,fun j hj=>by simp at hj⟩
theorem SlRd.cl {α:Type} {h:AHeap} {m:Nat} {enc:α→List AVal} {v:AVal} {l:List α} (s:SlRd h m enc v l):v.cell=true:=by
 rcases s with ⟨rfl,_⟩ | ⟨id,g,off,vs,ro,rfl,_⟩<;>rfl
theorem SlRd.lit {α:Type} {h:AHeap} {id m:Nat} {ro:Bool} {enc:α→List AVal} {l:List α} {vs:List AVal} (hg:h.get id=.cells 0 ro vs) (hm:∀ a,(enc a).length=m) (hv:vs=l.flatMap enc) (lt:id<h.n):SlRd h m enc (.sl id 0 0 l.length m) l:=by
 subst hv
 have:(l.flatMap enc).length=l.length*m:=by
  clear hg
  induction l with
  | nil=>simp
  | cons a l ih=>simp only [List.flatMap_cons,List.length_append,List.length_cons,ih,hm,Nat.add_mul];omega
 exact .inr ⟨id,0,0,_,ro,rfl,hg,lt,by omega,by rw [List.drop_zero,List.take_of_length_le (by omega)]⟩
theorem SlRd.litE {h:AHeap} {id:Nat} {ro:Bool} {l:List (Int×Int×Int)} {vs:List AVal} (hg:h.get id=.cells 0 ro vs) (hv:vs=l.flatMap encE) (lt:id<h.n):SlRd h 3 encE (.sl id 0 0 l.length 3) l:=SlRd.lit hg (fun _=>rfl) hv lt
theorem hfNon {h h':AHeap} {A B:List Nat} (f:HFrame h h' A B):HFrame h h' A []:=⟨f.n,f.g,f.get,fun j hj=>(nomatch hj),fun j hj=>(nomatch hj)⟩
theorem awake (h:AHeap):CallP AP 15 [] h fun r h'=>r=.bool true∧HFrame h h' [] []:=by
 refine callP (rfl:Tr.get AP 15=some A15) ?_
 generalize hQ:(fun (r:AVal) (h':AHeap)=>_)=Q
 simp -implicitDefEqProofs (disch:=first|exact dz _|fail) only [↓AM.R0,AM.R1,AM.R2,qA,qB,qC,qD,qE,↓reduceIte,qG,qH,qI,AM.a_buildSlice,List.range,List.range.loop,List.getD_cons_zero,List.getD_cons_succ,Nat.mod_one,Nat.reduceMod,Nat.reduceMul]
 obtain ⟨hA,hhA⟩:∃ hA,hA=(((h.push (.cells 0 false [.int .i64 0])).push (.cells 0 false [.int .i64 1,.int .i64 0,.int .i64 0,.int .i64 0,.int .u64 7,.nils,.int .i64 48,.int .i64 0,.int .i64 0,.int .i64 0,.int .u64 0,.nils,.int .i64 36,.int .i64 0,.int .i64 0,.int .i64 0,.int .u64 0,.nils])).push
  (.cells 0 false [.int .i64 0,.sl h.n 0 0 1 1,.nils,.sl (h.n+1) 0 0 3 6])):=⟨_,rfl⟩
 rw [←hhA]
 have g0:hA.get h.n=.cells 0 false [.int .i64 0]:=by rw [hhA];simp -implicitDefEqProofs (disch:=first|exact dz _|fail) only [↓AM.R0,AM.R1,AM.R2,qA,qB,qC,qD,qE,↓reduceIte,qG,qH,qI]
 have g1:hA.get (h.n+1)=.cells 0 false [.int .i64 1,.int .i64 0,.int .i64 0,.int .i64 0,.int .u64 7,.nils,.int .i64 48,.int .i64 0,.int .i64 0,.int .i64 0,.int .u64 0,.nils,.int .i64 36,.int .i64 0,.int .i64 0,.int .i64 0,.int .u64 0,.nils]:=by rw [hhA];simp -implicitDefEqProofs (disch:=first|exact dz _|fail) only [↓AM.R0,AM.R1,AM.R2,qA,qB,qC,qD,qE,↓reduceIte,qG,qH,qI]
 have g2:hA.get (h.n+1+1)=.cells 0 false [.int .i64 0,.sl h.n 0 0 1 1,.nils,.sl (h.n+1) 0 0 3 6]:=by rw [hhA];simp -implicitDefEqProofs (disch:=first|exact dz _|fail) only [↓AM.R0,AM.R1,AM.R2,qA,qB,qC,qD,qE,↓reduceIte,qG,qH,qI]
 have nA:hA.n=h.n+3:=by rw [hhA];rfl
 have fA:HFrame h hA [] []:=by
  rw [hhA]
  exact ((((HFrame.refl (h:=h) (F:=[]) (by simp)).pushTmp _).pushTmp _).pushTmp _)
 clear hhA
 have RP:ProgR hA pAwake [.nils,.nils,.sl (h.n+1+1) 0 0 1 4]:=rdP_ok (by
  have l0:=rdS_sl (n:=1) (m:=1) g0 (by omega) rfl
  have l1:=rdS_sl (n:=3) (m:=6) g1 (by omega) rfl
  have l2:=rdS_sl (n:=1) (m:=4) g2 (by omega) rfl
  simp only [rdP,rdI,rdS_nil,l0,l1,l2,Option.bind,typsV,intsV,funsV,inssV]
  rfl)
 obtain ⟨q1,q2,q3⟩:=goodP_get pAwake_good
 obtain ⟨R0,R1,R2,R3,R4,k0,k1,k2,k3,k4,k5,k6⟩:=rAwake_get
 refine AM.callI_of (newOk RP q1 q2 q3 k0) ?_
 rintro r h2 ⟨γ,rfl,P2,f2,hK⟩
 have n2:=f2.n
 have F3:=(((fA.trans f2).pushTmp (.cells 0 false [.int .i64 0,.int .i64 0,.int .i64 0])).setTmp (i:=h2.n) (by omega) (.cells 0 false [.int .i64 0,.int .i64 0,.int .i64 0]))
 have P3:=P2.tmp (Chg.tmp h2 γ.K (.cells 0 false [.int .i64 0,.int .i64 0,.int .i64 0]) (.cells 0 false [.int .i64 0,.int .i64 0,.int .i64 0]))
 simp -implicitDefEqProofs (disch:=first|exact dz _|fail) only [↓AM.R0,AM.R1,AM.R2,qA,qB,qC,qD,qE,↓reduceIte,qG,qH,qI]
 generalize ((h2.push (.cells 0 false [.int .i64 0,.int .i64 0,.int .i64 0])).set h2.n (.cells 0 false [.int .i64 0,.int .i64 0,.int .i64 0]))=h3 at *
 have hK':∀ j,j<h.n→γ.K j=.no:=fun j hj=>hK j (by omega)
 refine AM.callI_of (step P3 k1) ?_
 rintro r h4 ⟨rfl,γ4,P4,N4⟩
 simp -implicitDefEqProofs (disch:=first|exact dz _|fail) only [↓AM.R0,AM.R1,AM.R2,qA,qB,qC,qD,qE,↓reduceIte,qG,qH,qI]
 have s:=step P4 k2
 rw [N4.d] at s
 refine AM.callI_of s ?_
 rintro r h5 ⟨rfl,γ5,P5,N5⟩
 have N5:=N4.trans N5
 simp -implicitDefEqProofs (disch:=first|exact dz _|fail) only [↓AM.R0,AM.R1,AM.R2,qA,qB,qC,qD,qE,↓reduceIte,qG,qH,qI]
 have s:=step P5 k3
 rw [N5.d] at s
 refine AM.callI_of s ?_
 rintro r h6 ⟨rfl,γ6,P6,N6⟩
 have N6:=N5.trans N6
 simp -implicitDefEqProofs (disch:=first|exact dz _|fail) only [↓AM.R0,AM.R1,AM.R2,qA,qB,qC,qD,qE,↓reduceIte,qG,qH,qI]
 have s:=step P6 k4
 rw [N6.d] at s
 refine AM.callI_of s ?_
 rintro r h7 ⟨rfl,γ7,P7,N7⟩
 have N7:=N6.trans N7
 simp -implicitDefEqProofs (disch:=first|exact dz _|fail) only [↓AM.R0,AM.R1,AM.R2,qA,qB,qC,qD,qE,↓reduceIte,qG,qH,qI]
 have s:=endedG P7
 rw [N7.d,k5] at s
 refine AM.callI_of s ?_
 rintro r h8 ⟨rfl,rfl⟩
 simp -implicitDefEqProofs (disch:=first|exact dz _|fail) only [↓AM.R0,AM.R1,AM.R2,qA,qB,qC,qD,qE,↓reduceIte,qG,qH,qI]
 have s:=traceG P7 (by rw [k6];decide)
 rw [N7.d,k6] at s
 refine AM.callI_of s ?_
 rintro tv h9 ⟨F9,s9,f9⟩
 have n9:=f9.n
 have F9':=HFrame.nxt F3 N7 hK'
 have c9:=SlRd.cl s9.rd
 simp -implicitDefEqProofs (disch:=first|exact dz _|fail) only [↓AM.R0,AM.R1,AM.R2,qA,qB,qC,qD,qE,↓reduceIte,qG,qH,qI,c9,AM.a_buildSlice,List.range,List.range.loop,List.getD_cons_zero,List.getD_cons_succ,Nat.mod_one,Nat.reduceMod,Nat.reduceMul]
 obtain ⟨hB,hhB⟩:∃ hB,hB=h9.push (.cells 0 false [.int .i64 1,.int .i64 0,.int .u64 7,.int .i64 3,.int .i64 0,.int .u64 0]):=⟨_,rfl⟩
 rw [←hhB]
 have fB:HFrame h9 hB [] []:=by rw [hhB];exact HFrame.pushTmp (HFrame.refl (by simp)) _
 have gB:hB.get h9.n=.cells 0 false [.int .i64 1,.int .i64 0,.int .u64 7,.int .i64 3,.int .i64 0,.int .u64 0]:=by rw [hhB];exact AHeap.get_push_same _ _
 have nB:hB.n=h9.n+1:=by rw [hhB];rfl
 clear hhB
 have sB:=SlRd.litE (l:=[(1,0,7),(3,0,0)]) gB rfl (by omega)
 refine AM.callI_of (sameTrace (s9.rd.keep fB) sB (by decide)) ?_
 rintro r h10 ⟨rfl,rfl⟩
 simp -implicitDefEqProofs (disch:=first|exact dz _|fail) only [↓AM.R0,AM.R1,AM.R2,qA,qB,qC,qD,qE,↓reduceIte,qG,qH,qI]
 subst hQ
 exact ⟨rfl,(F9'.trans (hfNon f9)).trans fB⟩
theorem cells1 {v:AVal} (h:v.cell=true):v.cells=[v]:=by cases v<;>simp_all [AVal.cell,AVal.cells]
theorem ltI {a b:Nat} (h:a<b):(a<b)=True:=eq_true h
def pOne (code:List PIns):PProg:=⟨[(false,[0,1]),(true,[0])],[],[⟨0,[0,0,0,0,1,1,1,16,17,64],[],code⟩,⟨1,[0],[],[⟨48,0,0,0,0,[]⟩,⟨36,0,0,0,0,[]⟩]⟩,⟨1,[0,0,0],[],[⟨40,1,2,0,0,[]⟩,⟨48,1,0,0,0,[]⟩,⟨48,2,0,0,0,[]⟩,⟨36,0,0,0,0,[]⟩]⟩]⟩
theorem one {h:AHeap} {cv:AVal} {code:List PIns} (s:SlR h 6 (InsR h) cv code):CallP AP 23 [cv] h fun r h'=>HFrame h h' [] []∧∃ row,r=.agg row∧ProgR h' (pOne code) row:=by
 have cc:=SlR.cellv s
 refine callP (rfl:Tr.get AP 23=some A23) ?_
 generalize hQ:(fun (r:AVal) (h':AHeap)=>_)=Q
 simp -implicitDefEqProofs (disch:=first|exact dz _|fail) only [↓AM.R0,AM.R1,AM.R2,qA,qB,qC,qD,qE,↓reduceIte,qG,qH,qI,cc,cells1 cc,AM.a_buildSlice,List.range,List.range.loop,List.getD_cons_zero,List.getD_cons_succ,Nat.mod_one,Nat.reduceMod,Nat.reduceMul]
 subst hQ
 refine ⟨by (repeat (first | with_reducible apply HFrame.pushTmp | with_reducible refine HFrame.setTmp ?_ (by omega) _ | with_reducible exact HFrame.refl (by simp))),_,rfl,?_⟩
 generalize hh:(AHeap.set _ h.n _)=hB
 have fB:HFrame h hB [] []:=by rw [←hh];(repeat (first | with_reducible apply HFrame.pushTmp | with_reducible refine HFrame.setTmp ?_ (by omega) _ | with_reducible exact HFrame.refl (by simp)))
 refine ⟨_,_,_,rfl,slR_of (vs := [AVal.bool false,AVal.sl (h.n + 1 + 1 + 1 + 1 + 1 + 1 + 1 + 1) 0 0 2 1,AVal.bool true,AVal.sl (h.n + 1 + 1 + 1 + 1 + 1 + 1 + 1 + 1 + 1) 0 0 1 1]) (rows := [[_,_], [_,_]]) (by decide) ?_ rfl (by simp) ⟨⟨_,rfl,rdI_ok ?_⟩, ⟨_,rfl,rdI_ok ?_⟩, trivial⟩, SlIn.nilI,slR_of (vs := [AVal.int IntKind.i64 0,AVal.sl (h.n + 1) 0 0 10 1,AVal.nils,cv,AVal.int IntKind.i64 1,
       AVal.sl (h.n+1+1) 0 0 1 1,AVal.nils,AVal.sl (h.n+1+1+1) 0 0 2 6,AVal.int IntKind.i64 1,
       AVal.sl (h.n+1+1+1+1+1) 0 0 3 1,AVal.nils,AVal.sl (h.n+1+1+1+1+1+1) 0 0 4 6]) (rows:=[[_,_,_,_],[_,_,_,_],[_,_,_,_]]) (by decide) ?_ rfl (by simp) ⟨⟨_,_,_,rfl,rdI_ok ?_,SlIn.nilI,s.mono (fun _ _ q=>InsR.mono fB.n (fun j hj=>fB.get j hj (by simp)) q) fB.n (fun j hj=>fB.get j hj (by simp))⟩,⟨_,_,_,rfl,rdI_ok ?_,SlIn.nilI,rdC_ok ?_⟩,⟨_,_,_,rfl,rdI_ok ?_,SlIn.nilI,rdC_ok ?_⟩,trivial⟩⟩
 all_goals (rw [←hh];simp -implicitDefEqProofs (disch:=first|exact dz _|fail) only [↓AM.R0,AM.R1,AM.R2,qA,qB,qC,qD,qE,↓reduceIte,qG,qH,qI,rdP,rdI,rdS,cellsOf,Option.bind,typsV,intsV,funsV,inssV,ltI,if_true,and_self,and_true,true_and,List.length_cons,List.length_nil,Nat.reduceAdd,Nat.reduceMul,Int.reduceLE,Int.toNat_natCast,Int.reduceToNat])
end Go.Proofs.Ytnbnpjhlflcjeaa.Id