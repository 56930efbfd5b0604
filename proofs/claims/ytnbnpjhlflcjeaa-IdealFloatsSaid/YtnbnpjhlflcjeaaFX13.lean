/-
 What the functions of this seat do,on the machine: lemmas for the laws.
-/
import Derived.Test.YtnbnpjhlflcjeaaFX6
import Derived.Test.YtnbnpjhlflcjeaaFX12
set_option linter.unusedSimpArgs false
set_option linter.unusedVariables false
set_option maxRecDepth 100000
attribute [local irreducible] Go.AM.wp Go.AM.wpIs Go.AM.wpTr Go.AM.opI Go.AM.gI Go.AM.cI Go.AM.trI Go.AM.callI Go.AM.fnI Go.AM.yldI Go.AM.rangeI Go.AM.rangeC Go.AM.YldP Go.AM.asgQ Go.AM.roundQ Go.AM.rangeQ Go.AM.trG Go.AM.trOp Go.AM.trCall Go.AM.seqC Go.AM.loopI
namespace Go.Proofs.Ytnbnpjhlflcjeaa.Id
open Go Go.AM Go.Proofs.Ytnbnpjhlflcjeaa.AmGF
open Nat renaming reduceAdd → qA,reduceLeDiff → qB,reduceEqDiff → qC,reduceLT → qE
open Int renaming reduceToNat → qD,reduceEq → qG,reduceLT → qH,reduceLE → qI
theorem sClass (h:AHeap) (w:Int) (hw:0≤w∧w≤18446744073709551615):CallP AP 30 [.int .u64 w] h fun r h'=>(∃ c,r=.int .i64 c∧decide (c=4)=!selfF w.toNat)∧h'=h:=by
 refine callP (rfl:Tr.get AP 30=some A30) ?_
 generalize hQ:(fun (r:AVal) (h':AHeap)=>_)=Q
 have km:kMax .u64=18446744073709551615:=rfl
 have kb:IntKind.u64.bits=64:=rfl
 obtain ⟨n,rfl⟩:∃ n:Nat,w=n:=⟨w.toNat,by omega⟩
 rw [Int.toNat_natCast] at hQ
 obtain ⟨e,he⟩:∃ e:Nat,e=n / 4503599627370496%2048:=⟨_,rfl⟩
 obtain ⟨m,hm⟩:∃ m:Nat,m=n%4503599627370496:=⟨_,rfl⟩
 have b1:∀ h,binV h .shr (.int .u64 (n:Int)) (.int .u64 52)=some (.int .u64 ((n / 4503599627370496:Nat):Int),h):=fun h=>by
  rw [AM.bin_shr h .u64 .u64 (n:Int) 52 (by omega) (by decide) (by decide)]
  simp only [Int.toNat_natCast,Int.reduceToNat,Nat.shiftRight_eq_div_pow]
 have b2:∀ h,binV h .and (.int .u64 ((n / 4503599627370496:Nat):Int)) (.int .u64 2047)=some (.int .u64 (e:Int),h):=fun h=>by
  rw [AM.bin_and h .u64 _ 2047 (by omega) (by rw [km];omega) (by decide) (by decide)]
  simp only [Int.toNat_natCast,Int.reduceToNat]
  rw [Nat.and_two_pow_sub_one_eq_mod _ 11,he]
 have b3:∀ h,binV h .and (.int .u64 (n:Int)) (.int .u64 4503599627370495)=some (.int .u64 (m:Int),h):=fun h=>by
  rw [AM.bin_and h .u64 _ 4503599627370495 (by omega) (by rw [km];omega) (by decide) (by decide)]
  simp only [Int.toNat_natCast,Int.reduceToNat]
  rw [Nat.and_two_pow_sub_one_eq_mod _ 52,hm]
 have hn:=self_nan (n:=n)
 rw [isNaN_iff (by omega),←he,←hm] at hn
 by_cases c1:e=2047
 ·have d1:decide ((e:Int)=2047)=true:=decide_eq_true (by omega)
  by_cases c2:m=0
  ·have d2:decide ((m:Int)=0)=true:=decide_eq_true (by omega)
   simp -implicitDefEqProofs (disch:=first|exact dz _|fail) only [↓qJ,qK,qL,qA,qB,qC,qD,qE,↓reduceIte,qG,qH,qI,b1,b2,b3,d1,d2,Bool.not_true]
   subst hQ
   exact ⟨⟨3,rfl,by rw [hn,show decide (e=2047∧m≠0)=false from decide_eq_false (by omega)];rfl⟩,rfl⟩
  ·have d2:decide ((m:Int)=0)=false:=decide_eq_false (by omega)
   simp -implicitDefEqProofs (disch:=first|exact dz _|fail) only [↓qJ,qK,qL,qA,qB,qC,qD,qE,↓reduceIte,qG,qH,qI,b1,b2,b3,d1,d2,Bool.not_false]
   subst hQ
   exact ⟨⟨4,rfl,by rw [hn,show decide (e=2047∧m≠0)=true from decide_eq_true (by omega)];rfl⟩,rfl⟩
 ·have d1:decide ((e:Int)=2047)=false:=decide_eq_false (by omega)
  have hz:selfF n=true:=by rw [hn,show decide (e=2047∧m≠0)=false from decide_eq_false (by omega)];rfl
  by_cases c3:e=0
  ·have d3:decide ((e:Int)=0)=true:=decide_eq_true (by omega)
   by_cases c2:m=0
   ·have d2:decide ((m:Int)=0)=true:=decide_eq_true (by omega)
    simp -implicitDefEqProofs (disch:=first|exact dz _|fail) only [↓qJ,qK,qL,qA,qB,qC,qD,qE,↓reduceIte,qG,qH,qI,b1,b2,b3,d1,d2,d3,Bool.not_true]
    subst hQ
    exact ⟨⟨0,rfl,by rw [hz];rfl⟩,rfl⟩
   ·have d2:decide ((m:Int)=0)=false:=decide_eq_false (by omega)
    simp -implicitDefEqProofs (disch:=first|exact dz _|fail) only [↓qJ,qK,qL,qA,qB,qC,qD,qE,↓reduceIte,qG,qH,qI,b1,b2,b3,d1,d2,d3,Bool.not_true,Bool.not_false]
    subst hQ
    exact ⟨⟨1,rfl,by rw [hz];rfl⟩,rfl⟩
  ·have d3:decide ((e:Int)=0)=false:=decide_eq_false (by omega)
   simp -implicitDefEqProofs (disch:=first|exact dz _|fail) only [↓qJ,qK,qL,qA,qB,qC,qD,qE,↓reduceIte,qG,qH,qI,b1,b2,b3,d1,d3,Bool.not_true,Bool.not_false]
   subst hQ
   exact ⟨⟨2,rfl,by rw [hz];rfl⟩,rfl⟩
theorem wFlB {k:Int} (hk:k=15∨k=16∨k=17∨k=18) (x y:Int):0≤wFl k x y∧wFl k x y≤18446744073709551615:=by
 rcases hk with rfl | rfl | rfl | rfl
 ·exact addB x y
 ·exact subB x y
 ·exact mulB x y
 ·exact divB x y
theorem wFlC {k:Int} (hk:k=15∨k=16∨k=17∨k=18) {x y:Int} (hx:0≤x) (hy:0≤y):wFl k (canonF x) (canonF y)=wFl k x y:=by
 rcases hk with rfl | rfl | rfl | rfl
 ·exact addC hx hy
 ·exact subC hx hy
 ·exact mulC hx hy
 ·exact divC hx hy
theorem eqF_self (w:Int):eqF w w=selfF w.toNat:=rfl
theorem wFl15 (x y:Int):wFl 15 x y=addF x y:=rfl
theorem wFl16 (x y:Int):wFl 16 x y=subF x y:=rfl
theorem wFl17 (x y:Int):wFl 17 x y=mulF x y:=rfl
theorem wFl18 (x y:Int):wFl 18 x y=divF x y:=rfl
attribute [local irreducible] addF subF mulF divF selfF eqF wFl canonF toIF
set_option maxHeartbeats 4000000 in
theorem lawFloats (a x y:Int) (ha:0≤a∧a≤255) (hx:0≤x∧x≤18446744073709551615) (hy:0≤y∧y≤18446744073709551615) (h:AHeap):CallP AP 11 [.int .u8 a,.int .u64 x,.int .u64 y] h fun r h'=>r=.bool true:=by
 refine callP (rfl:Tr.get AP 11=some A11) ?_
 generalize hQ:(fun (r:AVal) (h':AHeap)=>_)=Q
 simp -implicitDefEqProofs (disch:=first|exact dz _|fail) only [↓qJ,qK,qL,qA,qB,qC,qD,qE,↓reduceIte,qG,qH,qI,a_buildSlice,List.range,List.range.loop,List.getD_cons_zero,List.getD_cons_succ,Nat.mod_one,Nat.reduceMod,Nat.reduceMul]
 obtain ⟨op,eo,ho⟩:∃ op:Int,IntKind.i64.wrap (15+IntKind.i64.wrap (a.tmod 4))=op∧(op=15∨op=16∨op=17∨op=18):=⟨_,rfl,by
  have e2:a.tmod 4=a%4:=Int.tmod_eq_emod_of_nonneg ha.1
  rw [e2,wrap_i64 (n:=a%4) (by omega) (by omega),wrap_i64 (by omega) (by omega)];omega⟩
 rw [eo]
 obtain ⟨nx,rfl⟩:∃ n:Nat,x=n:=⟨x.toNat,by omega⟩
 obtain ⟨ny,rfl⟩:∃ n:Nat,y=n:=⟨y.toNat,by omega⟩
 have lx':=hx.2
 have ly':=hy.2
 refine callI_of (one (code:=cFl op nx ny) (rdC_ok (by simp -implicitDefEqProofs (disch:=first|exact dz _|fail) only [↓qJ,qK,qL,qA,qB,qC,qD,qE,↓reduceIte,qG,qH,qI,rdP,rdI,rdS,cellsOf,Option.bind,typsV,intsV,funsV,inssV,ltI,if_true,and_self,and_true,true_and,List.length_cons,List.length_nil,Nat.reduceAdd,Nat.reduceMul,Int.reduceLE,Int.toNat_natCast,Int.reduceToNat,lx',ly',Int.natCast_nonneg];rfl))) ?_
 rintro r h1 ⟨f1,row,rfl,RR⟩
 have rc:=ProgR.cellv RR
 generalize (AHeap.push h _)=hA at *
 obtain ⟨n,hn,hn0,hn1⟩:=toIF_some nx
 have hnx:0≤(nx:Int):=by omega
 have hny:0≤(ny:Int):=by omega
 obtain ⟨tv,gv,fv,rfl,RT,RG,RF⟩:=RR
 have RR:ProgR h1 (pOne (cFl op nx ny)) [tv,gv,fv]:=⟨tv,gv,fv,rfl,RT,RG,RF⟩
 have c1:=SlR.cellv RT
 have c2:=SlIn.cellv RG
 have c3:=SlR.cellv RF
 simp -implicitDefEqProofs (disch:=first|exact dz _|fail) only [↓qJ,qK,qL,qA,qB,qC,qD,qE,↓reduceIte,qG,qH,qI,c1,c2,c3]
 generalize hh3:(AHeap.set (AHeap.push h1 _) _ _)=h3
 have o3:h3.get h1.n=.cells 0 false [tv,gv,fv]:=by rw [←hh3];exact AHeap.get_set_same _ _ _
 have n3:h3.n=h1.n+1:=by rw [←hh3];rfl
 have f3:HFrame h1 h3 [] []:=by rw [←hh3];(repeat (first | with_reducible apply HFrame.pushTmp | with_reducible refine HFrame.setTmp ?_ (by omega) _ | with_reducible exact HFrame.refl (by simp)))
 clear hh3
 have R3:ProgR h3 (pOne (cFl op nx ny)) [tv,gv,fv]:=RR.mono f3.n fun j hj=>f3.get j hj (by simp)
 have hxn:toIF (nx:Int)=some n:=hn
 have hcn:toIF (canonF (nx:Int))=some n:=by rw [toC hnx];exact hn
 refine callI_of (sAdd h3 _ _) ?_
 rintro r h4 ⟨rfl,rfl⟩
 have sh:=showFl nx ny op ho hcn
 rw [wFlC ho hnx hny] at sh
 have gd:=goodFl nx ny (by omega) (by omega) op ho
 have wb:=wFlB ho (nx:Int) (ny:Int)
 rcases ho with rfl | rfl | rfl | rfl
 ·simp -implicitDefEqProofs (disch:=first|exact dz _|fail) only [↓qJ,qK,qL,qA,qB,qC,qD,qE,↓reduceIte,qG,qH,qI]
  rw [wFl15] at wb
  refine callI_of (sClass h4 _ wb) ?_
  rintro r h5 ⟨⟨c,rfl,hc⟩,rfl⟩
  cases hs:selfF ((addF (nx:Int) (ny:Int))).toNat with
  | true =>
   rw [hs] at hc
   have d1:decide (c=4)=false:=hc
   simp -implicitDefEqProofs (disch:=first|exact dz _|fail) only [↓qJ,qK,qL,qA,qB,qC,qD,qE,↓reduceIte,qG,qH,qI,d1]
   refine callI_of (awake h5) ?_
   rintro r h6 ⟨rfl,f6⟩
   have o6:=(f6.get h1.n (by omega) (by simp)).trans o3
   have n6:=f6.n
   have l6:h1.n<h6.n:=by omega
   simp -implicitDefEqProofs (disch:=first|exact dz _|fail) only [↓qJ,qK,qL,qA,qB,qC,qD,qE,↓reduceIte,qG,qH,qI,o6]
   refine callI_of (shownS (R3.mono f6.n fun j hj=>f6.get j hj (by simp)) gd (by decide) sh (steps:=20)) ?_
   rintro tv' h7 ⟨F7,s7,f7⟩
   have c7:=SlRd.cl s7.rd
   simp -implicitDefEqProofs (disch:=first|exact dz _|fail) only [↓qJ,qK,qL,qA,qB,qC,qD,qE,↓reduceIte,qG,qH,qI,c7]
   refine callI_of (sTo h7 _ hxn) ?_
   rintro r h8 ⟨rfl,rfl⟩
   simp -implicitDefEqProofs (disch:=first|exact dz _|fail) only [↓qJ,qK,qL,qA,qB,qC,qD,qE,↓reduceIte,qG,qH,qI,c7,a_buildSlice,List.range,List.range.loop,List.getD_cons_zero,List.getD_cons_succ,Nat.mod_one,Nat.reduceMod,Nat.reduceMul]
   refine callI_of (sameLit s7.rd [(2,0,(addF (nx:Int) (ny:Int))),(2,0,(addF (nx:Int) (ny:Int))),(1,0,1),(1,0,IntKind.u64.wrap n),(3,0,0)] rfl (by simp [tFl])) ?_
   rintro r h9 ⟨rfl,f9⟩
   simp -implicitDefEqProofs (disch:=first|exact dz _|fail) only [↓qJ,qK,qL,qA,qB,qC,qD,qE,↓reduceIte,qG,qH,qI]
   subst hQ
   refine congrArg AVal.bool (decide_eq_true ?_)
   unfold tFl
   rw [wFl15,eqF_self,hs]
   rfl
  | false =>
   rw [hs] at hc
   have d1:decide (c=4)=true:=hc
   simp -implicitDefEqProofs (disch:=first|exact dz _|fail) only [↓qJ,qK,qL,qA,qB,qC,qD,qE,↓reduceIte,qG,qH,qI,d1]
   refine callI_of (awake h5) ?_
   rintro r h6 ⟨rfl,f6⟩
   have o6:=(f6.get h1.n (by omega) (by simp)).trans o3
   have n6:=f6.n
   have l6:h1.n<h6.n:=by omega
   simp -implicitDefEqProofs (disch:=first|exact dz _|fail) only [↓qJ,qK,qL,qA,qB,qC,qD,qE,↓reduceIte,qG,qH,qI,o6]
   refine callI_of (shownS (R3.mono f6.n fun j hj=>f6.get j hj (by simp)) gd (by decide) sh (steps:=20)) ?_
   rintro tv' h7 ⟨F7,s7,f7⟩
   have c7:=SlRd.cl s7.rd
   simp -implicitDefEqProofs (disch:=first|exact dz _|fail) only [↓qJ,qK,qL,qA,qB,qC,qD,qE,↓reduceIte,qG,qH,qI,c7]
   refine callI_of (sTo h7 _ hxn) ?_
   rintro r h8 ⟨rfl,rfl⟩
   simp -implicitDefEqProofs (disch:=first|exact dz _|fail) only [↓qJ,qK,qL,qA,qB,qC,qD,qE,↓reduceIte,qG,qH,qI,c7,a_buildSlice,List.range,List.range.loop,List.getD_cons_zero,List.getD_cons_succ,Nat.mod_one,Nat.reduceMod,Nat.reduceMul]
   refine callI_of (sameLit s7.rd [(2,0,(addF (nx:Int) (ny:Int))),(2,0,(addF (nx:Int) (ny:Int))),(1,0,0),(1,0,IntKind.u64.wrap n),(3,0,0)] rfl (by simp [tFl])) ?_
   rintro r h9 ⟨rfl,f9⟩
   simp -implicitDefEqProofs (disch:=first|exact dz _|fail) only [↓qJ,qK,qL,qA,qB,qC,qD,qE,↓reduceIte,qG,qH,qI]
   subst hQ
   refine congrArg AVal.bool (decide_eq_true ?_)
   unfold tFl
   rw [wFl15,eqF_self,hs]
   rfl
 ·simp -implicitDefEqProofs (disch:=first|exact dz _|fail) only [↓qJ,qK,qL,qA,qB,qC,qD,qE,↓reduceIte,qG,qH,qI]
  rw [wFl16] at wb
  refine callI_of (sSub h4 _ _) ?_
  rintro r h4 ⟨rfl,rfl⟩
  simp -implicitDefEqProofs (disch:=first|exact dz _|fail) only [↓qJ,qK,qL,qA,qB,qC,qD,qE,↓reduceIte,qG,qH,qI]
  refine callI_of (sClass h4 _ wb) ?_
  rintro r h5 ⟨⟨c,rfl,hc⟩,rfl⟩
  cases hs:selfF ((subF (nx:Int) (ny:Int))).toNat with
  | true =>
   rw [hs] at hc
   have d1:decide (c=4)=false:=hc
   simp -implicitDefEqProofs (disch:=first|exact dz _|fail) only [↓qJ,qK,qL,qA,qB,qC,qD,qE,↓reduceIte,qG,qH,qI,d1]
   refine callI_of (awake h5) ?_
   rintro r h6 ⟨rfl,f6⟩
   have o6:=(f6.get h1.n (by omega) (by simp)).trans o3
   have n6:=f6.n
   have l6:h1.n<h6.n:=by omega
   simp -implicitDefEqProofs (disch:=first|exact dz _|fail) only [↓qJ,qK,qL,qA,qB,qC,qD,qE,↓reduceIte,qG,qH,qI,o6]
   refine callI_of (shownS (R3.mono f6.n fun j hj=>f6.get j hj (by simp)) gd (by decide) sh (steps:=20)) ?_
   rintro tv' h7 ⟨F7,s7,f7⟩
   have c7:=SlRd.cl s7.rd
   simp -implicitDefEqProofs (disch:=first|exact dz _|fail) only [↓qJ,qK,qL,qA,qB,qC,qD,qE,↓reduceIte,qG,qH,qI,c7]
   refine callI_of (sTo h7 _ hxn) ?_
   rintro r h8 ⟨rfl,rfl⟩
   simp -implicitDefEqProofs (disch:=first|exact dz _|fail) only [↓qJ,qK,qL,qA,qB,qC,qD,qE,↓reduceIte,qG,qH,qI,c7,a_buildSlice,List.range,List.range.loop,List.getD_cons_zero,List.getD_cons_succ,Nat.mod_one,Nat.reduceMod,Nat.reduceMul]
   refine callI_of (sameLit s7.rd [(2,0,(subF (nx:Int) (ny:Int))),(2,0,(subF (nx:Int) (ny:Int))),(1,0,1),(1,0,IntKind.u64.wrap n),(3,0,0)] rfl (by simp [tFl])) ?_
   rintro r h9 ⟨rfl,f9⟩
   simp -implicitDefEqProofs (disch:=first|exact dz _|fail) only [↓qJ,qK,qL,qA,qB,qC,qD,qE,↓reduceIte,qG,qH,qI]
   subst hQ
   refine congrArg AVal.bool (decide_eq_true ?_)
   unfold tFl
   rw [wFl16,eqF_self,hs]
   rfl
  | false =>
   rw [hs] at hc
   have d1:decide (c=4)=true:=hc
   simp -implicitDefEqProofs (disch:=first|exact dz _|fail) only [↓qJ,qK,qL,qA,qB,qC,qD,qE,↓reduceIte,qG,qH,qI,d1]
   refine callI_of (awake h5) ?_
   rintro r h6 ⟨rfl,f6⟩
   have o6:=(f6.get h1.n (by omega) (by simp)).trans o3
   have n6:=f6.n
   have l6:h1.n<h6.n:=by omega
   simp -implicitDefEqProofs (disch:=first|exact dz _|fail) only [↓qJ,qK,qL,qA,qB,qC,qD,qE,↓reduceIte,qG,qH,qI,o6]
   refine callI_of (shownS (R3.mono f6.n fun j hj=>f6.get j hj (by simp)) gd (by decide) sh (steps:=20)) ?_
   rintro tv' h7 ⟨F7,s7,f7⟩
   have c7:=SlRd.cl s7.rd
   simp -implicitDefEqProofs (disch:=first|exact dz _|fail) only [↓qJ,qK,qL,qA,qB,qC,qD,qE,↓reduceIte,qG,qH,qI,c7]
   refine callI_of (sTo h7 _ hxn) ?_
   rintro r h8 ⟨rfl,rfl⟩
   simp -implicitDefEqProofs (disch:=first|exact dz _|fail) only [↓qJ,qK,qL,qA,qB,qC,qD,qE,↓reduceIte,qG,qH,qI,c7,a_buildSlice,List.range,List.range.loop,List.getD_cons_zero,List.getD_cons_succ,Nat.mod_one,Nat.reduceMod,Nat.reduceMul]
   refine callI_of (sameLit s7.rd [(2,0,(subF (nx:Int) (ny:Int))),(2,0,(subF (nx:Int) (ny:Int))),(1,0,0),(1,0,IntKind.u64.wrap n),(3,0,0)] rfl (by simp [tFl])) ?_
   rintro r h9 ⟨rfl,f9⟩
   simp -implicitDefEqProofs (disch:=first|exact dz _|fail) only [↓qJ,qK,qL,qA,qB,qC,qD,qE,↓reduceIte,qG,qH,qI]
   subst hQ
   refine congrArg AVal.bool (decide_eq_true ?_)
   unfold tFl
   rw [wFl16,eqF_self,hs]
   rfl
 ·simp -implicitDefEqProofs (disch:=first|exact dz _|fail) only [↓qJ,qK,qL,qA,qB,qC,qD,qE,↓reduceIte,qG,qH,qI]
  rw [wFl17] at wb
  refine callI_of (sMul h4 _ _) ?_
  rintro r h4 ⟨rfl,rfl⟩
  simp -implicitDefEqProofs (disch:=first|exact dz _|fail) only [↓qJ,qK,qL,qA,qB,qC,qD,qE,↓reduceIte,qG,qH,qI]
  refine callI_of (sClass h4 _ wb) ?_
  rintro r h5 ⟨⟨c,rfl,hc⟩,rfl⟩
  cases hs:selfF ((mulF (nx:Int) (ny:Int))).toNat with
  | true =>
   rw [hs] at hc
   have d1:decide (c=4)=false:=hc
   simp -implicitDefEqProofs (disch:=first|exact dz _|fail) only [↓qJ,qK,qL,qA,qB,qC,qD,qE,↓reduceIte,qG,qH,qI,d1]
   refine callI_of (awake h5) ?_
   rintro r h6 ⟨rfl,f6⟩
   have o6:=(f6.get h1.n (by omega) (by simp)).trans o3
   have n6:=f6.n
   have l6:h1.n<h6.n:=by omega
   simp -implicitDefEqProofs (disch:=first|exact dz _|fail) only [↓qJ,qK,qL,qA,qB,qC,qD,qE,↓reduceIte,qG,qH,qI,o6]
   refine callI_of (shownS (R3.mono f6.n fun j hj=>f6.get j hj (by simp)) gd (by decide) sh (steps:=20)) ?_
   rintro tv' h7 ⟨F7,s7,f7⟩
   have c7:=SlRd.cl s7.rd
   simp -implicitDefEqProofs (disch:=first|exact dz _|fail) only [↓qJ,qK,qL,qA,qB,qC,qD,qE,↓reduceIte,qG,qH,qI,c7]
   refine callI_of (sTo h7 _ hxn) ?_
   rintro r h8 ⟨rfl,rfl⟩
   simp -implicitDefEqProofs (disch:=first|exact dz _|fail) only [↓qJ,qK,qL,qA,qB,qC,qD,qE,↓reduceIte,qG,qH,qI,c7,a_buildSlice,List.range,List.range.loop,List.getD_cons_zero,List.getD_cons_succ,Nat.mod_one,Nat.reduceMod,Nat.reduceMul]
   refine callI_of (sameLit s7.rd [(2,0,(mulF (nx:Int) (ny:Int))),(2,0,(mulF (nx:Int) (ny:Int))),(1,0,1),(1,0,IntKind.u64.wrap n),(3,0,0)] rfl (by simp [tFl])) ?_
   rintro r h9 ⟨rfl,f9⟩
   simp -implicitDefEqProofs (disch:=first|exact dz _|fail) only [↓qJ,qK,qL,qA,qB,qC,qD,qE,↓reduceIte,qG,qH,qI]
   subst hQ
   refine congrArg AVal.bool (decide_eq_true ?_)
   unfold tFl
   rw [wFl17,eqF_self,hs]
   rfl
  | false =>
   rw [hs] at hc
   have d1:decide (c=4)=true:=hc
   simp -implicitDefEqProofs (disch:=first|exact dz _|fail) only [↓qJ,qK,qL,qA,qB,qC,qD,qE,↓reduceIte,qG,qH,qI,d1]
   refine callI_of (awake h5) ?_
   rintro r h6 ⟨rfl,f6⟩
   have o6:=(f6.get h1.n (by omega) (by simp)).trans o3
   have n6:=f6.n
   have l6:h1.n<h6.n:=by omega
   simp -implicitDefEqProofs (disch:=first|exact dz _|fail) only [↓qJ,qK,qL,qA,qB,qC,qD,qE,↓reduceIte,qG,qH,qI,o6]
   refine callI_of (shownS (R3.mono f6.n fun j hj=>f6.get j hj (by simp)) gd (by decide) sh (steps:=20)) ?_
   rintro tv' h7 ⟨F7,s7,f7⟩
   have c7:=SlRd.cl s7.rd
   simp -implicitDefEqProofs (disch:=first|exact dz _|fail) only [↓qJ,qK,qL,qA,qB,qC,qD,qE,↓reduceIte,qG,qH,qI,c7]
   refine callI_of (sTo h7 _ hxn) ?_
   rintro r h8 ⟨rfl,rfl⟩
   simp -implicitDefEqProofs (disch:=first|exact dz _|fail) only [↓qJ,qK,qL,qA,qB,qC,qD,qE,↓reduceIte,qG,qH,qI,c7,a_buildSlice,List.range,List.range.loop,List.getD_cons_zero,List.getD_cons_succ,Nat.mod_one,Nat.reduceMod,Nat.reduceMul]
   refine callI_of (sameLit s7.rd [(2,0,(mulF (nx:Int) (ny:Int))),(2,0,(mulF (nx:Int) (ny:Int))),(1,0,0),(1,0,IntKind.u64.wrap n),(3,0,0)] rfl (by simp [tFl])) ?_
   rintro r h9 ⟨rfl,f9⟩
   simp -implicitDefEqProofs (disch:=first|exact dz _|fail) only [↓qJ,qK,qL,qA,qB,qC,qD,qE,↓reduceIte,qG,qH,qI]
   subst hQ
   refine congrArg AVal.bool (decide_eq_true ?_)
   unfold tFl
   rw [wFl17,eqF_self,hs]
   rfl
 ·simp -implicitDefEqProofs (disch:=first|exact dz _|fail) only [↓qJ,qK,qL,qA,qB,qC,qD,qE,↓reduceIte,qG,qH,qI]
  rw [wFl18] at wb
  refine callI_of (sDiv h4 _ _) ?_
  rintro r h4 ⟨rfl,rfl⟩
  simp -implicitDefEqProofs (disch:=first|exact dz _|fail) only [↓qJ,qK,qL,qA,qB,qC,qD,qE,↓reduceIte,qG,qH,qI]
  refine callI_of (sClass h4 _ wb) ?_
  rintro r h5 ⟨⟨c,rfl,hc⟩,rfl⟩
  cases hs:selfF ((divF (nx:Int) (ny:Int))).toNat with
  | true =>
   rw [hs] at hc
   have d1:decide (c=4)=false:=hc
   simp -implicitDefEqProofs (disch:=first|exact dz _|fail) only [↓qJ,qK,qL,qA,qB,qC,qD,qE,↓reduceIte,qG,qH,qI,d1]
   refine callI_of (awake h5) ?_
   rintro r h6 ⟨rfl,f6⟩
   have o6:=(f6.get h1.n (by omega) (by simp)).trans o3
   have n6:=f6.n
   have l6:h1.n<h6.n:=by omega
   simp -implicitDefEqProofs (disch:=first|exact dz _|fail) only [↓qJ,qK,qL,qA,qB,qC,qD,qE,↓reduceIte,qG,qH,qI,o6]
   refine callI_of (shownS (R3.mono f6.n fun j hj=>f6.get j hj (by simp)) gd (by decide) sh (steps:=20)) ?_
   rintro tv' h7 ⟨F7,s7,f7⟩
   have c7:=SlRd.cl s7.rd
   simp -implicitDefEqProofs (disch:=first|exact dz _|fail) only [↓qJ,qK,qL,qA,qB,qC,qD,qE,↓reduceIte,qG,qH,qI,c7]
   refine callI_of (sTo h7 _ hxn) ?_
   rintro r h8 ⟨rfl,rfl⟩
   simp -implicitDefEqProofs (disch:=first|exact dz _|fail) only [↓qJ,qK,qL,qA,qB,qC,qD,qE,↓reduceIte,qG,qH,qI,c7,a_buildSlice,List.range,List.range.loop,List.getD_cons_zero,List.getD_cons_succ,Nat.mod_one,Nat.reduceMod,Nat.reduceMul]
   refine callI_of (sameLit s7.rd [(2,0,(divF (nx:Int) (ny:Int))),(2,0,(divF (nx:Int) (ny:Int))),(1,0,1),(1,0,IntKind.u64.wrap n),(3,0,0)] rfl (by simp [tFl])) ?_
   rintro r h9 ⟨rfl,f9⟩
   simp -implicitDefEqProofs (disch:=first|exact dz _|fail) only [↓qJ,qK,qL,qA,qB,qC,qD,qE,↓reduceIte,qG,qH,qI]
   subst hQ
   refine congrArg AVal.bool (decide_eq_true ?_)
   unfold tFl
   rw [wFl18,eqF_self,hs]
   rfl
  | false =>
   rw [hs] at hc
   have d1:decide (c=4)=true:=hc
   simp -implicitDefEqProofs (disch:=first|exact dz _|fail) only [↓qJ,qK,qL,qA,qB,qC,qD,qE,↓reduceIte,qG,qH,qI,d1]
   refine callI_of (awake h5) ?_
   rintro r h6 ⟨rfl,f6⟩
   have o6:=(f6.get h1.n (by omega) (by simp)).trans o3
   have n6:=f6.n
   have l6:h1.n<h6.n:=by omega
   simp -implicitDefEqProofs (disch:=first|exact dz _|fail) only [↓qJ,qK,qL,qA,qB,qC,qD,qE,↓reduceIte,qG,qH,qI,o6]
   refine callI_of (shownS (R3.mono f6.n fun j hj=>f6.get j hj (by simp)) gd (by decide) sh (steps:=20)) ?_
   rintro tv' h7 ⟨F7,s7,f7⟩
   have c7:=SlRd.cl s7.rd
   simp -implicitDefEqProofs (disch:=first|exact dz _|fail) only [↓qJ,qK,qL,qA,qB,qC,qD,qE,↓reduceIte,qG,qH,qI,c7]
   refine callI_of (sTo h7 _ hxn) ?_
   rintro r h8 ⟨rfl,rfl⟩
   simp -implicitDefEqProofs (disch:=first|exact dz _|fail) only [↓qJ,qK,qL,qA,qB,qC,qD,qE,↓reduceIte,qG,qH,qI,c7,a_buildSlice,List.range,List.range.loop,List.getD_cons_zero,List.getD_cons_succ,Nat.mod_one,Nat.reduceMod,Nat.reduceMul]
   refine callI_of (sameLit s7.rd [(2,0,(divF (nx:Int) (ny:Int))),(2,0,(divF (nx:Int) (ny:Int))),(1,0,0),(1,0,IntKind.u64.wrap n),(3,0,0)] rfl (by simp [tFl])) ?_
   rintro r h9 ⟨rfl,f9⟩
   simp -implicitDefEqProofs (disch:=first|exact dz _|fail) only [↓qJ,qK,qL,qA,qB,qC,qD,qE,↓reduceIte,qG,qH,qI]
   subst hQ
   refine congrArg AVal.bool (decide_eq_true ?_)
   unfold tFl
   rw [wFl18,eqF_self,hs]
   rfl
end Go.Proofs.Ytnbnpjhlflcjeaa.Id