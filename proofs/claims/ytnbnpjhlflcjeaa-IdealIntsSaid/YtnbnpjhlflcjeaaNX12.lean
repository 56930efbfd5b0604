/-
 What the functions of this seat do,on the machine: lemmas for the laws.
-/
import Derived.Test.YtnbnpjhlflcjeaaNX6
import Derived.Test.YtnbnpjhlflcjeaaNX11
set_option linter.unusedSimpArgs false
set_option linter.unusedVariables false
set_option maxRecDepth 100000
attribute [local irreducible] Go.AM.wp Go.AM.wpIs Go.AM.wpTr Go.AM.opI Go.AM.gI Go.AM.cI Go.AM.trI Go.AM.callI Go.AM.fnI Go.AM.yldI Go.AM.rangeI Go.AM.rangeC Go.AM.YldP Go.AM.asgQ Go.AM.roundQ Go.AM.rangeQ Go.AM.trG Go.AM.trOp Go.AM.trCall Go.AM.seqC Go.AM.loopI
namespace Go.Proofs.Ytnbnpjhlflcjeaa.Id
open Go Go.AM Go.Proofs.Ytnbnpjhlflcjeaa.AmGI
open Nat renaming reduceAdd → qA,reduceLeDiff → qB,reduceEqDiff → qC,reduceLT → qE
open Int renaming reduceToNat → qD,reduceEq → qG,reduceLT → qH,reduceLE → qI
/-! IdealInts. -/
def cInts (op:Int) (x y:Nat):List PIns:=[⟨1,1,0,0,x,[]⟩,⟨1,2,0,0,y,[]⟩,⟨op,0,1,2,0,[]⟩,⟨48,0,0,0,0,[]⟩,⟨36,0,0,0,0,[]⟩]
def sInts (op:Int) (x y:Nat) (pc:Int) (w:Int) (t:List (Int×Int×Int)):Run:=⟨pOne (cInts op x y),[],[⟨0,[],none⟩],[⟨1,0,false,[⟨0,pc,1,[w,x,y,0,0,0,0,0,0,0],[],[],0,false,[]⟩],1,false,0,false⟩],0,t,false,0⟩
def putW (d:Run) (k j:Nat) (a:Int):Option Int→Option Run
 | none=>d.panic (-3)
 | some w=>d.put k j a w
def outI:Option Int→List (Int×Int×Int)
 | none=>[(4,0,18446744073709551613)]
 | some w=>[(1,0,w),(3,0,0)]
theorem Run.execute_whole {d:Run} {k j:Nat} {i:PIns} {choice:Int} {r:Routine} {f:Frame} {x y:Int} {w:Option Int} (hr:d.gs[k]?=some r) (hf:r.frames[j]?=some f) (h1:i.op≠1) (h2:i.op≠2) (hw:isWhole i.op=true) (hx:at? f.slots i.b=some x) (hy:at? f.slots i.c=some y) (hv:wholeF i.op x y=some w):d.execute k j i choice=putW d k j i.a w:=by
 simp only [Run.execute,hr,hf,h1,h2,hw,hx,hy,hv,Option.bind,if_true,if_false]
 cases w<;>rfl
theorem showInts {op:Int} {x y:Nat} (ho:(3≤op∧op≤14)) {w:Option Int} (hw:wholeF op x y=some w):showF (pOne (cInts op x y)) 9=some (outI w):=by
 have a0:(Run.new (pOne (cInts op x y))).bind (fun d=>shownN 9 0 d)=(shownN 7 2 (sInts op x y 2 0 [])):=rfl
 have a1:shownN 7 2 (sInts op x y 2 0 [])=(((sInts op x y 3 0 []).execute 0 0 ⟨op,0,1,2,0,[]⟩ 2).bind fun d=>d.ending.map fun d=>((0:Int),d)).bind fun x=>shownN 6 3 x.2:=rfl
 have a2:=Run.execute_whole (d:=sInts op x y 3 0 []) (k:=0) (j:=0) (i:=⟨op,0,1,2,0,[]⟩) (choice:=2) rfl rfl (by show op≠1;omega) (by show op≠2;omega) (by simp [isWhole,ho.1,ho.2]) rfl rfl hw
 have a3:(putW (sInts op x y 3 0 []) 0 0 0 w).bind (fun d=>((d.ending.map fun d=>((0:Int),d)).bind fun x=>shownN 6 3 x.2).map fun r=>r.trace)=some (outI w):=by
  clear hw a2
  cases w with
  | none=>rfl
  | some w=>rfl
 have a4:((Run.new (pOne (cInts op x y))).bind (fun d=>shownN 9 0 d)).map (fun r=>r.trace)=some (outI w):=by
  rw [a0,a1,a2,←a3]
  cases putW (sInts op x y 3 0 []) 0 0 0 w<;>rfl
 obtain ⟨R1,b1,b2⟩:=Option.map_eq_some_iff.1 a4
 obtain ⟨R0,b3,b4⟩:=Option.bind_eq_some_iff.1 b1
 simp only [showF,Option.bind_eq_some_iff]
 refine ⟨R0,b3,R1,b4,?_⟩
 rw [if_pos (by rw [b2];cases w<;>simp [outI]),b2]
theorem goodInts {op:Int} {x y:Nat} (ho:op=3∨op=4∨op=5∨op=6∨op=7∨op=8∨op=9∨op=10∨op=11∨op=12∨op=13∨op=14) (hx:x≤18446744073709551615) (hy:y≤18446744073709551615):goodP (pOne (cInts op x y))=true:=by
 simp only [goodP,Bool.and_eq_true,decide_eq_true_eq]
 refine ⟨⟨?_,?_⟩,?_⟩
 ·simp only [okP,okF,okI,pOne,cInts,List.all_cons,List.all_nil,hx,hy,Bool.and_true,Bool.true_and,decide_true]
  rcases ho with rfl | rfl | rfl | rfl | rfl | rfl | rfl | rfl | rfl | rfl | rfl | rfl<;>rfl
 ·rfl
 ·rcases ho with rfl | rfl | rfl | rfl | rfl | rfl | rfl | rfl | rfl | rfl | rfl | rfl<;>rfl
end Go.Proofs.Ytnbnpjhlflcjeaa.Id
namespace Go.Proofs.Ytnbnpjhlflcjeaa.Id
open Go Go.AM Go.Proofs.Ytnbnpjhlflcjeaa.AmGI
open Nat renaming reduceAdd → qA,reduceLeDiff → qB,reduceEqDiff → qC,reduceLT → qE
open Int renaming reduceToNat → qD,reduceEq → qG,reduceLT → qH,reduceLE → qI
theorem wrap_i64 {n:Int} (h1:-9223372036854775808≤n) (h2:n≤9223372036854775807):IntKind.i64.wrap n=n:=by
 rw [wrap_eq];simp only;split<;>omega
theorem u64_nat (x:Int):∃ n:Nat,IntKind.u64.wrap x=n∧n≤18446744073709551615:=by
 refine ⟨(IntKind.u64.wrap x).toNat,?_,?_⟩<;>rw [wrap_eq]<;>simp only<;>omega
theorem u64_i64 (x:Int):IntKind.u64.wrap (IntKind.i64.wrap x)=IntKind.u64.wrap x:=by
 simp only [wrap_eq];split<;>omega
theorem i64_u64 (x:Int):IntKind.i64.wrap (IntKind.u64.wrap x)=IntKind.i64.wrap x:=by
 simp only [wrap_eq,Int.emod_emod]
theorem ibinB_sem (op:BinOp) (k:IntKind) (a b:Int):ibinB op k a k b=ofSem (binOp op 0 (.int k a) (.int k b)):=by
 unfold ibinB
 split
 ·rename_i v e;exact (ibits_sem e).symm
 ·rfl
theorem ofInt_u64 (a:Int):(BitVec.ofInt 64 a).toNat=(IntKind.u64.wrap a).toNat:=by
 rw [BitVec.toNat_ofInt,wrap_eq];rfl
theorem bin_andI (h:AHeap) (a b:Int):binV h .and (.int .i64 a) (.int .i64 b)=some (.int .i64 (IntKind.i64.wrap (((IntKind.u64.wrap a).toNat &&& (IntKind.u64.wrap b).toNat:Nat):Int)),h):=by
 have e:binOp .and 0 (.int .i64 a) (.int .i64 b)=Op.intBits .and .i64 a b:=by simp [binOp]
 simp only [binV,ibin,kEq,cond_true,ibinB_sem,e,Op.intBits,BitVec.toNat_and,show IntKind.i64.bits=64 from rfl,ofInt_u64];rfl
theorem bin_orI (h:AHeap) (a b:Int):binV h .or (.int .i64 a) (.int .i64 b)=some (.int .i64 (IntKind.i64.wrap (((IntKind.u64.wrap a).toNat ||| (IntKind.u64.wrap b).toNat:Nat):Int)),h):=by
 have e:binOp .or 0 (.int .i64 a) (.int .i64 b)=Op.intBits .or .i64 a b:=by simp [binOp]
 simp only [binV,ibin,kEq,cond_true,ibinB_sem,e,Op.intBits,BitVec.toNat_or,show IntKind.i64.bits=64 from rfl,ofInt_u64];rfl
theorem bin_xorI (h:AHeap) (a b:Int):binV h .xor (.int .i64 a) (.int .i64 b)=some (.int .i64 (IntKind.i64.wrap (((IntKind.u64.wrap a).toNat ^^^ (IntKind.u64.wrap b).toNat:Nat):Int)),h):=by
 have e:binOp .xor 0 (.int .i64 a) (.int .i64 b)=Op.intBits .xor .i64 a b:=by simp [binOp]
 simp only [binV,ibin,kEq,cond_true,ibinB_sem,e,Op.intBits,BitVec.toNat_xor,show IntKind.i64.bits=64 from rfl,ofInt_u64];rfl
theorem sameLit {h:AHeap} {tv:AVal} {l:List (Int×Int×Int)} {vs:List AVal} (s:SlRd h 3 encE tv l) (m:List (Int×Int×Int)) (hv:vs=m.flatMap encE) (hb:l.length<1000000):CallP AP 19 [tv,.sl h.n 0 0 m.length 3] (h.push (.cells 0 false vs)) fun r h'=>r=.bool (decide (l=m))∧HFrame h h' [] []:=by
 have f:HFrame h (h.push (.cells 0 false vs)) [] []:=by (repeat (first | with_reducible apply HFrame.pushTmp | with_reducible refine HFrame.setTmp ?_ (by omega) _ | with_reducible exact HFrame.refl (by simp)))
 refine (sameTrace (s.keep f) (SlRd.litE (AHeap.get_push_same _ _) hv (Nat.lt_succ_self _)) hb).mono ?_
 rintro r h' ⟨rfl,rfl⟩
 exact ⟨rfl,f⟩
set_option maxHeartbeats 4000000 in
theorem lawInts (a x y:Int) (ha:0≤a∧a≤255) (hx:-9223372036854775808≤x∧x≤9223372036854775807) (hy:-9223372036854775808≤y∧y≤9223372036854775807) (h:AHeap):CallP AP 5 [.int .u8 a,.int .i64 x,.int .i64 y] h fun r h'=>r=.bool true∧HFrame h h' [] []:=by
 refine callP (rfl:Tr.get AP 5=some A5) ?_
 generalize hQ:(fun (r:AVal) (h':AHeap)=>_)=Q
 simp -implicitDefEqProofs (disch:=first|exact dz _|fail) only [↓AM.R0,AM.R1,AM.R2,qA,qB,qC,qD,qE,↓reduceIte,qG,qH,qI,AM.a_buildSlice,List.range,List.range.loop,List.getD_cons_zero,List.getD_cons_succ,Nat.mod_one,Nat.reduceMod,Nat.reduceMul]
 obtain ⟨op,eo,ho⟩:∃ op:Int,IntKind.i64.wrap (3+(IntKind.i64.wrap a).tmod 12)=op∧(op=3∨op=4∨op=5∨op=6∨op=7∨op=8∨op=9∨op=10∨op=11∨op=12∨op=13∨op=14):=⟨_,rfl,by
  have e1:IntKind.i64.wrap a=a:=wrap_i64 (by omega) (by omega)
  have e2:a.tmod 12=a%12:=Int.tmod_eq_emod_of_nonneg ha.1
  rw [e1,e2,wrap_i64 (by omega) (by omega)];omega⟩
 have ho':3≤op∧op≤14:=by omega
 obtain ⟨nx,ex,lx⟩:∃ n:Nat,IntKind.u64.wrap x=n∧n≤18446744073709551615:=u64_nat x
 obtain ⟨ny,ey,ly⟩:∃ n:Nat,IntKind.u64.wrap y=n∧n≤18446744073709551615:=u64_nat y
 rw [eo,ex,ey]
 have lx':(nx:Int)≤18446744073709551615:=by omega
 have ly':(ny:Int)≤18446744073709551615:=by omega
 have fA:HFrame h (h.push (.cells 0 false [.int .i64 1,.int .i64 1,.int .i64 0,.int .i64 0,.int .u64 nx,.nils,.int .i64 1,.int .i64 2,.int .i64 0,.int .i64 0,.int .u64 ny,.nils,.int .i64 op,.int .i64 0,.int .i64 1,.int .i64 2,.int .u64 0,.nils,.int .i64 48,.int .i64 0,.int .i64 0,.int .i64 0,.int .u64 0,.nils,.int .i64 36,.int .i64 0,.int .i64 0,.int .i64 0,.int .u64 0,.nils])) [] []:=by (repeat (first | with_reducible apply HFrame.pushTmp | with_reducible refine HFrame.setTmp ?_ (by omega) _ | with_reducible exact HFrame.refl (by simp)))
 refine AM.callI_of (one (code:=cInts op nx ny) (rdC_ok (by simp -implicitDefEqProofs (disch:=first|exact dz _|fail) only [↓AM.R0,AM.R1,AM.R2,qA,qB,qC,qD,qE,↓reduceIte,qG,qH,qI,rdP,rdI,rdS,cellsOf,Option.bind,typsV,intsV,funsV,inssV,ltI,if_true,and_self,and_true,true_and,List.length_cons,List.length_nil,Nat.reduceAdd,Nat.reduceMul,Int.reduceLE,Int.toNat_natCast,Int.reduceToNat,lx',ly',Int.natCast_nonneg];rfl))) ?_
 rintro r h1 ⟨f1,row,rfl,RR⟩
 generalize (h.push _)=hA at *
 simp -implicitDefEqProofs (disch:=first|exact dz _|fail) only [↓AM.R0,AM.R1,AM.R2,qA,qB,qC,qD,qE,↓reduceIte,qG,qH,qI,AM.a_buildSlice,List.range,List.range.loop,List.getD_cons_zero,List.getD_cons_succ,Nat.mod_one,Nat.reduceMod,Nat.reduceMul]
 have k1:wok nx=true∧wok ny=true:=by simp only [wok,Bool.and_eq_true,decide_eq_true_eq];omega
 have ix:IntKind.i64.wrap nx=x:=by rw [←ex,i64_u64,wrap_i64 hx.1 hx.2]
 have iy:IntKind.i64.wrap ny=y:=by rw [←ey,i64_u64,wrap_i64 hy.1 hy.2]
 have m1:∀ a b:Int,u64 (IntKind.u64.wrap a*b)=u64 (a*b):=fun a b=>by simp only [u64,wrap_eq];rw [Int.mul_emod,Int.emod_emod,←Int.mul_emod]
 have km:kMax .u64=18446744073709551615:=rfl
 have kb2:IntKind.i64.bits=64:=rfl
 have hlt:ny%64<64:=Nat.mod_lt _ (by omega)
 have b63:∀ h,binV h .and (.int .i64 y) (.int .i64 63)=some (.int .i64 ((ny%64:Nat):Int),h):=fun h=>by
  have e63:ny &&& (IntKind.u64.wrap 63).toNat=ny%64:=Nat.and_two_pow_sub_one_eq_mod ny 6
  rw [bin_andI,ey,Int.toNat_natCast,e63,wrap_i64 (by omega) (by omega)]
 have w63:IntKind.u64.wrap ((ny%64:Nat):Int)=((ny%64:Nat):Int):=wrapU64 (by omega) (by omega)
 have bs:=fun h=>AM.bin_shl h .i64 .u64 x ((ny%64:Nat):Int) (by omega)
 simp only [kb2,Int.toNat_natCast,Nat.min_eq_left (Nat.le_of_lt hlt)] at bs
 have br:=fun h=>bin_shrI h .i64 .u64 x ((ny%64:Nat):Int) (by omega) (by omega)
 simp only [Int.toNat_natCast] at br
 rcases ho with rfl | rfl | rfl | rfl | rfl | rfl | rfl | rfl | rfl | rfl | rfl | rfl
 ·have hw:wholeF 3 nx ny=some (some (u64 (nx+ny))):=by
   simp only [wholeF,if_pos k1,Int.reduceEq,if_true,if_false,or_false,true_or,or_true]
  refine AM.callI_of (shownS RR (goodInts (by omega) lx ly) (by decide) (showInts (by omega) hw) (steps:=9)) ?_
  rintro tv h2 ⟨F2,s2,f2⟩
  have c2:=SlRd.cl s2.rd
  simp -implicitDefEqProofs (disch:=first|exact dz _|fail) only [↓AM.R0,AM.R1,AM.R2,qA,qB,qC,qD,qE,↓reduceIte,qG,qH,qI,AM.a_buildSlice,List.range,List.range.loop,List.getD_cons_zero,List.getD_cons_succ,Nat.mod_one,Nat.reduceMod,Nat.reduceMul,c2]
  refine AM.callI_of (awake h2) ?_
  rintro r h3 ⟨rfl,f3⟩
  simp -implicitDefEqProofs (disch:=first|exact dz _|fail) only [↓AM.R0,AM.R1,AM.R2,qA,qB,qC,qD,qE,↓reduceIte,qG,qH,qI,AM.a_buildSlice,List.range,List.range.loop,List.getD_cons_zero,List.getD_cons_succ,Nat.mod_one,Nat.reduceMod,Nat.reduceMul,c2]
  refine AM.callI_of (sameLit (s2.rd.keep f3) [(1,0,_),(3,0,0)] rfl (by simp [outI])) ?_
  rintro r h4 ⟨rfl,f4⟩
  simp -implicitDefEqProofs (disch:=first|exact dz _|fail) only [↓AM.R0,AM.R1,AM.R2,qA,qB,qC,qD,qE,↓reduceIte,qG,qH,qI,AM.a_buildSlice,List.range,List.range.loop,List.getD_cons_zero,List.getD_cons_succ,Nat.mod_one,Nat.reduceMod,Nat.reduceMul]
  subst hQ
  refine ⟨congrArg AVal.bool (decide_eq_true ?_),(((fA.trans f1).trans (hfNon f2)).trans f3).trans f4⟩
  refine congrArg (fun z=>[((1:Int),(0:Int),z),(3,0,0)]) ?_
  refine Eq.trans ?_ (u64_i64 _).symm;rw [←ex,←ey];simp only [u64,wrap_eq];omega
 ·have hw:wholeF 4 nx ny=some (some (u64 (nx-ny))):=by
   simp only [wholeF,if_pos k1,Int.reduceEq,if_true,if_false,or_false,true_or,or_true]
  refine AM.callI_of (shownS RR (goodInts (by omega) lx ly) (by decide) (showInts (by omega) hw) (steps:=9)) ?_
  rintro tv h2 ⟨F2,s2,f2⟩
  have c2:=SlRd.cl s2.rd
  simp -implicitDefEqProofs (disch:=first|exact dz _|fail) only [↓AM.R0,AM.R1,AM.R2,qA,qB,qC,qD,qE,↓reduceIte,qG,qH,qI,AM.a_buildSlice,List.range,List.range.loop,List.getD_cons_zero,List.getD_cons_succ,Nat.mod_one,Nat.reduceMod,Nat.reduceMul,c2]
  refine AM.callI_of (awake h2) ?_
  rintro r h3 ⟨rfl,f3⟩
  simp -implicitDefEqProofs (disch:=first|exact dz _|fail) only [↓AM.R0,AM.R1,AM.R2,qA,qB,qC,qD,qE,↓reduceIte,qG,qH,qI,AM.a_buildSlice,List.range,List.range.loop,List.getD_cons_zero,List.getD_cons_succ,Nat.mod_one,Nat.reduceMod,Nat.reduceMul,c2]
  refine AM.callI_of (sameLit (s2.rd.keep f3) [(1,0,_),(3,0,0)] rfl (by simp [outI])) ?_
  rintro r h4 ⟨rfl,f4⟩
  simp -implicitDefEqProofs (disch:=first|exact dz _|fail) only [↓AM.R0,AM.R1,AM.R2,qA,qB,qC,qD,qE,↓reduceIte,qG,qH,qI,AM.a_buildSlice,List.range,List.range.loop,List.getD_cons_zero,List.getD_cons_succ,Nat.mod_one,Nat.reduceMod,Nat.reduceMul]
  subst hQ
  refine ⟨congrArg AVal.bool (decide_eq_true ?_),(((fA.trans f1).trans (hfNon f2)).trans f3).trans f4⟩
  refine congrArg (fun z=>[((1:Int),(0:Int),z),(3,0,0)]) ?_
  refine Eq.trans ?_ (u64_i64 _).symm;rw [←ex,←ey];simp only [u64,wrap_eq];omega
 ·have hw:wholeF 5 nx ny=some (some (u64 (nx*ny))):=by
   simp only [wholeF,if_pos k1,Int.reduceEq,if_true,if_false,or_false,true_or,or_true]
  refine AM.callI_of (shownS RR (goodInts (by omega) lx ly) (by decide) (showInts (by omega) hw) (steps:=9)) ?_
  rintro tv h2 ⟨F2,s2,f2⟩
  have c2:=SlRd.cl s2.rd
  simp -implicitDefEqProofs (disch:=first|exact dz _|fail) only [↓AM.R0,AM.R1,AM.R2,qA,qB,qC,qD,qE,↓reduceIte,qG,qH,qI,AM.a_buildSlice,List.range,List.range.loop,List.getD_cons_zero,List.getD_cons_succ,Nat.mod_one,Nat.reduceMod,Nat.reduceMul,c2]
  refine AM.callI_of (awake h2) ?_
  rintro r h3 ⟨rfl,f3⟩
  simp -implicitDefEqProofs (disch:=first|exact dz _|fail) only [↓AM.R0,AM.R1,AM.R2,qA,qB,qC,qD,qE,↓reduceIte,qG,qH,qI,AM.a_buildSlice,List.range,List.range.loop,List.getD_cons_zero,List.getD_cons_succ,Nat.mod_one,Nat.reduceMod,Nat.reduceMul,c2]
  refine AM.callI_of (sameLit (s2.rd.keep f3) [(1,0,_),(3,0,0)] rfl (by simp [outI])) ?_
  rintro r h4 ⟨rfl,f4⟩
  simp -implicitDefEqProofs (disch:=first|exact dz _|fail) only [↓AM.R0,AM.R1,AM.R2,qA,qB,qC,qD,qE,↓reduceIte,qG,qH,qI,AM.a_buildSlice,List.range,List.range.loop,List.getD_cons_zero,List.getD_cons_succ,Nat.mod_one,Nat.reduceMod,Nat.reduceMul]
  subst hQ
  refine ⟨congrArg AVal.bool (decide_eq_true ?_),(((fA.trans f1).trans (hfNon f2)).trans f3).trans f4⟩
  refine congrArg (fun z=>[((1:Int),(0:Int),z),(3,0,0)]) ?_
  refine Eq.trans ?_ (u64_i64 _).symm;rw [←ex,←ey,m1,Int.mul_comm,m1,Int.mul_comm];rfl
 ·by_cases c:y=0
  ·have c0:(ny:Int)=0:=by rw [←ey,c];rfl
   have d:decide (y=0)=true:=decide_eq_true c
   have hw:wholeF 6 nx ny=some (none):=by
    have k1':=k1;rw [c0] at k1'
    simp only [wholeF,if_pos k1',Int.reduceEq,if_true,if_false,or_false,true_or,or_true,c0]
   refine AM.callI_of (shownS RR (goodInts (by omega) lx ly) (by decide) (showInts (by omega) hw) (steps:=9)) ?_
   rintro tv h2 ⟨F2,s2,f2⟩
   have c2:=SlRd.cl s2.rd
   simp -implicitDefEqProofs (disch:=first|exact dz _|fail) only [↓AM.R0,AM.R1,AM.R2,qA,qB,qC,qD,qE,↓reduceIte,qG,qH,qI,AM.a_buildSlice,List.range,List.range.loop,List.getD_cons_zero,List.getD_cons_succ,Nat.mod_one,Nat.reduceMod,Nat.reduceMul,c2,d]
   refine AM.callI_of (awake h2) ?_
   rintro r h3 ⟨rfl,f3⟩
   simp -implicitDefEqProofs (disch:=first|exact dz _|fail) only [↓AM.R0,AM.R1,AM.R2,qA,qB,qC,qD,qE,↓reduceIte,qG,qH,qI,AM.a_buildSlice,List.range,List.range.loop,List.getD_cons_zero,List.getD_cons_succ,Nat.mod_one,Nat.reduceMod,Nat.reduceMul,c2]
   refine AM.callI_of (sameLit (s2.rd.keep f3) [(4,0,18446744073709551613)] rfl (by simp [outI])) ?_
   rintro r h4 ⟨rfl,f4⟩
   simp -implicitDefEqProofs (disch:=first|exact dz _|fail) only [↓AM.R0,AM.R1,AM.R2,qA,qB,qC,qD,qE,↓reduceIte,qG,qH,qI,AM.a_buildSlice,List.range,List.range.loop,List.getD_cons_zero,List.getD_cons_succ,Nat.mod_one,Nat.reduceMod,Nat.reduceMul]
   subst hQ
   refine ⟨congrArg AVal.bool (decide_eq_true ?_),(((fA.trans f1).trans (hfNon f2)).trans f3).trans f4⟩
   rfl
  ·have c0:(ny:Int)≠0:=fun q=>c (by rw [←iy,q];rfl)
   have d:decide (y=0)=false:=decide_eq_false c
   have hw:wholeF 6 nx ny=some (some (u64 (i64 ((i64 nx).tdiv (i64 ny))))):=by
    simp only [wholeF,if_pos k1,Int.reduceEq,if_true,if_false,or_false,true_or,or_true,c0]
   refine AM.callI_of (shownS RR (goodInts (by omega) lx ly) (by decide) (showInts (by omega) hw) (steps:=9)) ?_
   rintro tv h2 ⟨F2,s2,f2⟩
   have c2:=SlRd.cl s2.rd
   simp -implicitDefEqProofs (disch:=first|exact dz _|fail) only [↓AM.R0,AM.R1,AM.R2,qA,qB,qC,qD,qE,↓reduceIte,qG,qH,qI,AM.a_buildSlice,List.range,List.range.loop,List.getD_cons_zero,List.getD_cons_succ,Nat.mod_one,Nat.reduceMod,Nat.reduceMul,c2,d,AM.bin_quo _ .i64 x y c]
   refine AM.callI_of (awake h2) ?_
   rintro r h3 ⟨rfl,f3⟩
   simp -implicitDefEqProofs (disch:=first|exact dz _|fail) only [↓AM.R0,AM.R1,AM.R2,qA,qB,qC,qD,qE,↓reduceIte,qG,qH,qI,AM.a_buildSlice,List.range,List.range.loop,List.getD_cons_zero,List.getD_cons_succ,Nat.mod_one,Nat.reduceMod,Nat.reduceMul,c2]
   refine AM.callI_of (sameLit (s2.rd.keep f3) [(1,0,_),(3,0,0)] rfl (by simp [outI])) ?_
   rintro r h4 ⟨rfl,f4⟩
   simp -implicitDefEqProofs (disch:=first|exact dz _|fail) only [↓AM.R0,AM.R1,AM.R2,qA,qB,qC,qD,qE,↓reduceIte,qG,qH,qI,AM.a_buildSlice,List.range,List.range.loop,List.getD_cons_zero,List.getD_cons_succ,Nat.mod_one,Nat.reduceMod,Nat.reduceMul]
   subst hQ
   refine ⟨congrArg AVal.bool (decide_eq_true ?_),(((fA.trans f1).trans (hfNon f2)).trans f3).trans f4⟩
   refine congrArg (fun z=>[((1:Int),(0:Int),z),(3,0,0)]) ?_
   show u64 (i64 ((IntKind.i64.wrap nx).tdiv (IntKind.i64.wrap ny)))=_;rw [ix,iy];rfl
 ·by_cases c:y=0
  ·have c0:(ny:Int)=0:=by rw [←ey,c];rfl
   have d:decide (y=0)=true:=decide_eq_true c
   have hw:wholeF 7 nx ny=some (none):=by
    have k1':=k1;rw [c0] at k1'
    simp only [wholeF,if_pos k1',Int.reduceEq,if_true,if_false,or_false,true_or,or_true,c0]
   refine AM.callI_of (shownS RR (goodInts (by omega) lx ly) (by decide) (showInts (by omega) hw) (steps:=9)) ?_
   rintro tv h2 ⟨F2,s2,f2⟩
   have c2:=SlRd.cl s2.rd
   simp -implicitDefEqProofs (disch:=first|exact dz _|fail) only [↓AM.R0,AM.R1,AM.R2,qA,qB,qC,qD,qE,↓reduceIte,qG,qH,qI,AM.a_buildSlice,List.range,List.range.loop,List.getD_cons_zero,List.getD_cons_succ,Nat.mod_one,Nat.reduceMod,Nat.reduceMul,c2,d]
   refine AM.callI_of (awake h2) ?_
   rintro r h3 ⟨rfl,f3⟩
   simp -implicitDefEqProofs (disch:=first|exact dz _|fail) only [↓AM.R0,AM.R1,AM.R2,qA,qB,qC,qD,qE,↓reduceIte,qG,qH,qI,AM.a_buildSlice,List.range,List.range.loop,List.getD_cons_zero,List.getD_cons_succ,Nat.mod_one,Nat.reduceMod,Nat.reduceMul,c2]
   refine AM.callI_of (sameLit (s2.rd.keep f3) [(4,0,18446744073709551613)] rfl (by simp [outI])) ?_
   rintro r h4 ⟨rfl,f4⟩
   simp -implicitDefEqProofs (disch:=first|exact dz _|fail) only [↓AM.R0,AM.R1,AM.R2,qA,qB,qC,qD,qE,↓reduceIte,qG,qH,qI,AM.a_buildSlice,List.range,List.range.loop,List.getD_cons_zero,List.getD_cons_succ,Nat.mod_one,Nat.reduceMod,Nat.reduceMul]
   subst hQ
   refine ⟨congrArg AVal.bool (decide_eq_true ?_),(((fA.trans f1).trans (hfNon f2)).trans f3).trans f4⟩
   rfl
  ·have c0:(ny:Int)≠0:=fun q=>c (by rw [←iy,q];rfl)
   have d:decide (y=0)=false:=decide_eq_false c
   have hw:wholeF 7 nx ny=some (some (u64 ((i64 nx).tmod (i64 ny)))):=by
    simp only [wholeF,if_pos k1,Int.reduceEq,if_true,if_false,or_false,true_or,or_true,c0]
   refine AM.callI_of (shownS RR (goodInts (by omega) lx ly) (by decide) (showInts (by omega) hw) (steps:=9)) ?_
   rintro tv h2 ⟨F2,s2,f2⟩
   have c2:=SlRd.cl s2.rd
   simp -implicitDefEqProofs (disch:=first|exact dz _|fail) only [↓AM.R0,AM.R1,AM.R2,qA,qB,qC,qD,qE,↓reduceIte,qG,qH,qI,AM.a_buildSlice,List.range,List.range.loop,List.getD_cons_zero,List.getD_cons_succ,Nat.mod_one,Nat.reduceMod,Nat.reduceMul,c2,d,AM.bin_quo _ .i64 x y c,AM.bin_rem _ .i64 x y c]
   refine AM.callI_of (awake h2) ?_
   rintro r h3 ⟨rfl,f3⟩
   simp -implicitDefEqProofs (disch:=first|exact dz _|fail) only [↓AM.R0,AM.R1,AM.R2,qA,qB,qC,qD,qE,↓reduceIte,qG,qH,qI,AM.a_buildSlice,List.range,List.range.loop,List.getD_cons_zero,List.getD_cons_succ,Nat.mod_one,Nat.reduceMod,Nat.reduceMul,c2]
   refine AM.callI_of (sameLit (s2.rd.keep f3) [(1,0,_),(3,0,0)] rfl (by simp [outI])) ?_
   rintro r h4 ⟨rfl,f4⟩
   simp -implicitDefEqProofs (disch:=first|exact dz _|fail) only [↓AM.R0,AM.R1,AM.R2,qA,qB,qC,qD,qE,↓reduceIte,qG,qH,qI,AM.a_buildSlice,List.range,List.range.loop,List.getD_cons_zero,List.getD_cons_succ,Nat.mod_one,Nat.reduceMod,Nat.reduceMul]
   subst hQ
   refine ⟨congrArg AVal.bool (decide_eq_true ?_),(((fA.trans f1).trans (hfNon f2)).trans f3).trans f4⟩
   refine congrArg (fun z=>[((1:Int),(0:Int),z),(3,0,0)]) ?_
   show u64 ((IntKind.i64.wrap nx).tmod (IntKind.i64.wrap ny))=_;rw [ix,iy];rfl
 ·have hw:wholeF 8 nx ny=some (some (((nx:Int).toNat &&& (ny:Int).toNat:Nat):Int)):=by
   simp only [wholeF,if_pos k1,Int.reduceEq,if_true,if_false,or_false,true_or,or_true]
  refine AM.callI_of (shownS RR (goodInts (by omega) lx ly) (by decide) (showInts (by omega) hw) (steps:=9)) ?_
  rintro tv h2 ⟨F2,s2,f2⟩
  have c2:=SlRd.cl s2.rd
  simp -implicitDefEqProofs (disch:=first|exact dz _|fail) only [↓AM.R0,AM.R1,AM.R2,qA,qB,qC,qD,qE,↓reduceIte,qG,qH,qI,AM.a_buildSlice,List.range,List.range.loop,List.getD_cons_zero,List.getD_cons_succ,Nat.mod_one,Nat.reduceMod,Nat.reduceMul,c2,bin_andI]
  refine AM.callI_of (awake h2) ?_
  rintro r h3 ⟨rfl,f3⟩
  simp -implicitDefEqProofs (disch:=first|exact dz _|fail) only [↓AM.R0,AM.R1,AM.R2,qA,qB,qC,qD,qE,↓reduceIte,qG,qH,qI,AM.a_buildSlice,List.range,List.range.loop,List.getD_cons_zero,List.getD_cons_succ,Nat.mod_one,Nat.reduceMod,Nat.reduceMul,c2]
  refine AM.callI_of (sameLit (s2.rd.keep f3) [(1,0,_),(3,0,0)] rfl (by simp [outI])) ?_
  rintro r h4 ⟨rfl,f4⟩
  simp -implicitDefEqProofs (disch:=first|exact dz _|fail) only [↓AM.R0,AM.R1,AM.R2,qA,qB,qC,qD,qE,↓reduceIte,qG,qH,qI,AM.a_buildSlice,List.range,List.range.loop,List.getD_cons_zero,List.getD_cons_succ,Nat.mod_one,Nat.reduceMod,Nat.reduceMul]
  subst hQ
  refine ⟨congrArg AVal.bool (decide_eq_true ?_),(((fA.trans f1).trans (hfNon f2)).trans f3).trans f4⟩
  refine congrArg (fun z=>[((1:Int),(0:Int),z),(3,0,0)]) ?_
  have lt:nx &&& ny<18446744073709551616:=Nat.lt_of_le_of_lt Nat.and_le_left (by omega)
  refine Eq.trans ?_ (u64_i64 _).symm;rw [ex,ey];simp only [Int.toNat_natCast];rw [wrapU64 (by omega) (by omega)]
 ·have hw:wholeF 9 nx ny=some (some (((nx:Int).toNat ||| (ny:Int).toNat:Nat):Int)):=by
   simp only [wholeF,if_pos k1,Int.reduceEq,if_true,if_false,or_false,true_or,or_true]
  refine AM.callI_of (shownS RR (goodInts (by omega) lx ly) (by decide) (showInts (by omega) hw) (steps:=9)) ?_
  rintro tv h2 ⟨F2,s2,f2⟩
  have c2:=SlRd.cl s2.rd
  simp -implicitDefEqProofs (disch:=first|exact dz _|fail) only [↓AM.R0,AM.R1,AM.R2,qA,qB,qC,qD,qE,↓reduceIte,qG,qH,qI,AM.a_buildSlice,List.range,List.range.loop,List.getD_cons_zero,List.getD_cons_succ,Nat.mod_one,Nat.reduceMod,Nat.reduceMul,c2,bin_orI]
  refine AM.callI_of (awake h2) ?_
  rintro r h3 ⟨rfl,f3⟩
  simp -implicitDefEqProofs (disch:=first|exact dz _|fail) only [↓AM.R0,AM.R1,AM.R2,qA,qB,qC,qD,qE,↓reduceIte,qG,qH,qI,AM.a_buildSlice,List.range,List.range.loop,List.getD_cons_zero,List.getD_cons_succ,Nat.mod_one,Nat.reduceMod,Nat.reduceMul,c2]
  refine AM.callI_of (sameLit (s2.rd.keep f3) [(1,0,_),(3,0,0)] rfl (by simp [outI])) ?_
  rintro r h4 ⟨rfl,f4⟩
  simp -implicitDefEqProofs (disch:=first|exact dz _|fail) only [↓AM.R0,AM.R1,AM.R2,qA,qB,qC,qD,qE,↓reduceIte,qG,qH,qI,AM.a_buildSlice,List.range,List.range.loop,List.getD_cons_zero,List.getD_cons_succ,Nat.mod_one,Nat.reduceMod,Nat.reduceMul]
  subst hQ
  refine ⟨congrArg AVal.bool (decide_eq_true ?_),(((fA.trans f1).trans (hfNon f2)).trans f3).trans f4⟩
  refine congrArg (fun z=>[((1:Int),(0:Int),z),(3,0,0)]) ?_
  have lt:nx ||| ny<18446744073709551616:=Nat.or_lt_two_pow (n:=64) (by omega) (by omega)
  refine Eq.trans ?_ (u64_i64 _).symm;rw [ex,ey];simp only [Int.toNat_natCast];rw [wrapU64 (by omega) (by omega)]
 ·have hw:wholeF 10 nx ny=some (some (((nx:Int).toNat ^^^ (ny:Int).toNat:Nat):Int)):=by
   simp only [wholeF,if_pos k1,Int.reduceEq,if_true,if_false,or_false,true_or,or_true]
  refine AM.callI_of (shownS RR (goodInts (by omega) lx ly) (by decide) (showInts (by omega) hw) (steps:=9)) ?_
  rintro tv h2 ⟨F2,s2,f2⟩
  have c2:=SlRd.cl s2.rd
  simp -implicitDefEqProofs (disch:=first|exact dz _|fail) only [↓AM.R0,AM.R1,AM.R2,qA,qB,qC,qD,qE,↓reduceIte,qG,qH,qI,AM.a_buildSlice,List.range,List.range.loop,List.getD_cons_zero,List.getD_cons_succ,Nat.mod_one,Nat.reduceMod,Nat.reduceMul,c2,bin_xorI]
  refine AM.callI_of (awake h2) ?_
  rintro r h3 ⟨rfl,f3⟩
  simp -implicitDefEqProofs (disch:=first|exact dz _|fail) only [↓AM.R0,AM.R1,AM.R2,qA,qB,qC,qD,qE,↓reduceIte,qG,qH,qI,AM.a_buildSlice,List.range,List.range.loop,List.getD_cons_zero,List.getD_cons_succ,Nat.mod_one,Nat.reduceMod,Nat.reduceMul,c2]
  refine AM.callI_of (sameLit (s2.rd.keep f3) [(1,0,_),(3,0,0)] rfl (by simp [outI])) ?_
  rintro r h4 ⟨rfl,f4⟩
  simp -implicitDefEqProofs (disch:=first|exact dz _|fail) only [↓AM.R0,AM.R1,AM.R2,qA,qB,qC,qD,qE,↓reduceIte,qG,qH,qI,AM.a_buildSlice,List.range,List.range.loop,List.getD_cons_zero,List.getD_cons_succ,Nat.mod_one,Nat.reduceMod,Nat.reduceMul]
  subst hQ
  refine ⟨congrArg AVal.bool (decide_eq_true ?_),(((fA.trans f1).trans (hfNon f2)).trans f3).trans f4⟩
  refine congrArg (fun z=>[((1:Int),(0:Int),z),(3,0,0)]) ?_
  have lt:nx ^^^ ny<18446744073709551616:=Nat.xor_lt_two_pow (n:=64) (by omega) (by omega)
  refine Eq.trans ?_ (u64_i64 _).symm;rw [ex,ey];simp only [Int.toNat_natCast];rw [wrapU64 (by omega) (by omega)]
 ·have hw:wholeF 11 nx ny=some (some (u64 (nx*2^((ny:Int).toNat%64)))):=by
   simp only [wholeF,if_pos k1,Int.reduceEq,if_true,if_false,or_false,true_or,or_true]
  refine AM.callI_of (shownS RR (goodInts (by omega) lx ly) (by decide) (showInts (by omega) hw) (steps:=9)) ?_
  rintro tv h2 ⟨F2,s2,f2⟩
  have c2:=SlRd.cl s2.rd
  simp -implicitDefEqProofs (disch:=first|exact dz _|fail) only [↓AM.R0,AM.R1,AM.R2,qA,qB,qC,qD,qE,↓reduceIte,qG,qH,qI,AM.a_buildSlice,List.range,List.range.loop,List.getD_cons_zero,List.getD_cons_succ,Nat.mod_one,Nat.reduceMod,Nat.reduceMul,c2,b63,w63,bs]
  refine AM.callI_of (awake h2) ?_
  rintro r h3 ⟨rfl,f3⟩
  simp -implicitDefEqProofs (disch:=first|exact dz _|fail) only [↓AM.R0,AM.R1,AM.R2,qA,qB,qC,qD,qE,↓reduceIte,qG,qH,qI,AM.a_buildSlice,List.range,List.range.loop,List.getD_cons_zero,List.getD_cons_succ,Nat.mod_one,Nat.reduceMod,Nat.reduceMul,c2]
  refine AM.callI_of (sameLit (s2.rd.keep f3) [(1,0,_),(3,0,0)] rfl (by simp [outI])) ?_
  rintro r h4 ⟨rfl,f4⟩
  simp -implicitDefEqProofs (disch:=first|exact dz _|fail) only [↓AM.R0,AM.R1,AM.R2,qA,qB,qC,qD,qE,↓reduceIte,qG,qH,qI,AM.a_buildSlice,List.range,List.range.loop,List.getD_cons_zero,List.getD_cons_succ,Nat.mod_one,Nat.reduceMod,Nat.reduceMul]
  subst hQ
  refine ⟨congrArg AVal.bool (decide_eq_true ?_),(((fA.trans f1).trans (hfNon f2)).trans f3).trans f4⟩
  refine congrArg (fun z=>[((1:Int),(0:Int),z),(3,0,0)]) ?_
  refine Eq.trans ?_ (u64_i64 _).symm;rw [←ex,m1];rfl
 ·have hw:wholeF 12 nx ny=some (some (u64 ((i64 nx).fdiv (2^((ny:Int).toNat%64))))):=by
   simp only [wholeF,if_pos k1,Int.reduceEq,if_true,if_false,or_false,true_or,or_true]
  refine AM.callI_of (shownS RR (goodInts (by omega) lx ly) (by decide) (showInts (by omega) hw) (steps:=9)) ?_
  rintro tv h2 ⟨F2,s2,f2⟩
  have c2:=SlRd.cl s2.rd
  simp -implicitDefEqProofs (disch:=first|exact dz _|fail) only [↓AM.R0,AM.R1,AM.R2,qA,qB,qC,qD,qE,↓reduceIte,qG,qH,qI,AM.a_buildSlice,List.range,List.range.loop,List.getD_cons_zero,List.getD_cons_succ,Nat.mod_one,Nat.reduceMod,Nat.reduceMul,c2,b63,w63,br]
  refine AM.callI_of (awake h2) ?_
  rintro r h3 ⟨rfl,f3⟩
  simp -implicitDefEqProofs (disch:=first|exact dz _|fail) only [↓AM.R0,AM.R1,AM.R2,qA,qB,qC,qD,qE,↓reduceIte,qG,qH,qI,AM.a_buildSlice,List.range,List.range.loop,List.getD_cons_zero,List.getD_cons_succ,Nat.mod_one,Nat.reduceMod,Nat.reduceMul,c2]
  refine AM.callI_of (sameLit (s2.rd.keep f3) [(1,0,_),(3,0,0)] rfl (by simp [outI])) ?_
  rintro r h4 ⟨rfl,f4⟩
  simp -implicitDefEqProofs (disch:=first|exact dz _|fail) only [↓AM.R0,AM.R1,AM.R2,qA,qB,qC,qD,qE,↓reduceIte,qG,qH,qI,AM.a_buildSlice,List.range,List.range.loop,List.getD_cons_zero,List.getD_cons_succ,Nat.mod_one,Nat.reduceMod,Nat.reduceMul]
  subst hQ
  refine ⟨congrArg AVal.bool (decide_eq_true ?_),(((fA.trans f1).trans (hfNon f2)).trans f3).trans f4⟩
  refine congrArg (fun z=>[((1:Int),(0:Int),z),(3,0,0)]) ?_
  show u64 ((IntKind.i64.wrap nx).fdiv (2^(ny%64)))=_;rw [ix];rfl
 ·by_cases c:x=y
  ·have d:decide (x=y)=true:=decide_eq_true c
   have hw:wholeF 13 nx ny=some (some (bitI (decide ((nx:Int)=ny)))):=by
    simp only [wholeF,if_pos k1,Int.reduceEq,if_true,if_false,or_false,true_or,or_true]
   refine AM.callI_of (shownS RR (goodInts (by omega) lx ly) (by decide) (showInts (by omega) hw) (steps:=9)) ?_
   rintro tv h2 ⟨F2,s2,f2⟩
   have c2:=SlRd.cl s2.rd
   simp -implicitDefEqProofs (disch:=first|exact dz _|fail) only [↓AM.R0,AM.R1,AM.R2,qA,qB,qC,qD,qE,↓reduceIte,qG,qH,qI,AM.a_buildSlice,List.range,List.range.loop,List.getD_cons_zero,List.getD_cons_succ,Nat.mod_one,Nat.reduceMod,Nat.reduceMul,c2,d]
   refine AM.callI_of (awake h2) ?_
   rintro r h3 ⟨rfl,f3⟩
   simp -implicitDefEqProofs (disch:=first|exact dz _|fail) only [↓AM.R0,AM.R1,AM.R2,qA,qB,qC,qD,qE,↓reduceIte,qG,qH,qI,AM.a_buildSlice,List.range,List.range.loop,List.getD_cons_zero,List.getD_cons_succ,Nat.mod_one,Nat.reduceMod,Nat.reduceMul,c2]
   refine AM.callI_of (sameLit (s2.rd.keep f3) [(1,0,_),(3,0,0)] rfl (by simp [outI])) ?_
   rintro r h4 ⟨rfl,f4⟩
   simp -implicitDefEqProofs (disch:=first|exact dz _|fail) only [↓AM.R0,AM.R1,AM.R2,qA,qB,qC,qD,qE,↓reduceIte,qG,qH,qI,AM.a_buildSlice,List.range,List.range.loop,List.getD_cons_zero,List.getD_cons_succ,Nat.mod_one,Nat.reduceMod,Nat.reduceMul]
   subst hQ
   refine ⟨congrArg AVal.bool (decide_eq_true ?_),(((fA.trans f1).trans (hfNon f2)).trans f3).trans f4⟩
   refine congrArg (fun z=>[((1:Int),(0:Int),z),(3,0,0)]) ?_
   rw [decide_eq_true (by rw [←ex,←ey,c])];rfl
  ·have d:decide (x=y)=false:=decide_eq_false c
   have hw:wholeF 13 nx ny=some (some (bitI (decide ((nx:Int)=ny)))):=by
    simp only [wholeF,if_pos k1,Int.reduceEq,if_true,if_false,or_false,true_or,or_true]
   refine AM.callI_of (shownS RR (goodInts (by omega) lx ly) (by decide) (showInts (by omega) hw) (steps:=9)) ?_
   rintro tv h2 ⟨F2,s2,f2⟩
   have c2:=SlRd.cl s2.rd
   simp -implicitDefEqProofs (disch:=first|exact dz _|fail) only [↓AM.R0,AM.R1,AM.R2,qA,qB,qC,qD,qE,↓reduceIte,qG,qH,qI,AM.a_buildSlice,List.range,List.range.loop,List.getD_cons_zero,List.getD_cons_succ,Nat.mod_one,Nat.reduceMod,Nat.reduceMul,c2,d]
   refine AM.callI_of (awake h2) ?_
   rintro r h3 ⟨rfl,f3⟩
   simp -implicitDefEqProofs (disch:=first|exact dz _|fail) only [↓AM.R0,AM.R1,AM.R2,qA,qB,qC,qD,qE,↓reduceIte,qG,qH,qI,AM.a_buildSlice,List.range,List.range.loop,List.getD_cons_zero,List.getD_cons_succ,Nat.mod_one,Nat.reduceMod,Nat.reduceMul,c2]
   refine AM.callI_of (sameLit (s2.rd.keep f3) [(1,0,_),(3,0,0)] rfl (by simp [outI])) ?_
   rintro r h4 ⟨rfl,f4⟩
   simp -implicitDefEqProofs (disch:=first|exact dz _|fail) only [↓AM.R0,AM.R1,AM.R2,qA,qB,qC,qD,qE,↓reduceIte,qG,qH,qI,AM.a_buildSlice,List.range,List.range.loop,List.getD_cons_zero,List.getD_cons_succ,Nat.mod_one,Nat.reduceMod,Nat.reduceMul]
   subst hQ
   refine ⟨congrArg AVal.bool (decide_eq_true ?_),(((fA.trans f1).trans (hfNon f2)).trans f3).trans f4⟩
   refine congrArg (fun z=>[((1:Int),(0:Int),z),(3,0,0)]) ?_
   rw [decide_eq_false (fun q=>c (by rw [←ix,q,iy]))];rfl
 ·by_cases c:x<y
  ·have d:decide (x<y)=true:=decide_eq_true c
   have hw:wholeF 14 nx ny=some (some (bitI (decide (i64 nx<i64 ny)))):=by
    simp only [wholeF,if_pos k1,Int.reduceEq,if_true,if_false,or_false,true_or,or_true]
   refine AM.callI_of (shownS RR (goodInts (by omega) lx ly) (by decide) (showInts (by omega) hw) (steps:=9)) ?_
   rintro tv h2 ⟨F2,s2,f2⟩
   have c2:=SlRd.cl s2.rd
   simp -implicitDefEqProofs (disch:=first|exact dz _|fail) only [↓AM.R0,AM.R1,AM.R2,qA,qB,qC,qD,qE,↓reduceIte,qG,qH,qI,AM.a_buildSlice,List.range,List.range.loop,List.getD_cons_zero,List.getD_cons_succ,Nat.mod_one,Nat.reduceMod,Nat.reduceMul,c2,d]
   refine AM.callI_of (awake h2) ?_
   rintro r h3 ⟨rfl,f3⟩
   simp -implicitDefEqProofs (disch:=first|exact dz _|fail) only [↓AM.R0,AM.R1,AM.R2,qA,qB,qC,qD,qE,↓reduceIte,qG,qH,qI,AM.a_buildSlice,List.range,List.range.loop,List.getD_cons_zero,List.getD_cons_succ,Nat.mod_one,Nat.reduceMod,Nat.reduceMul,c2]
   refine AM.callI_of (sameLit (s2.rd.keep f3) [(1,0,_),(3,0,0)] rfl (by simp [outI])) ?_
   rintro r h4 ⟨rfl,f4⟩
   simp -implicitDefEqProofs (disch:=first|exact dz _|fail) only [↓AM.R0,AM.R1,AM.R2,qA,qB,qC,qD,qE,↓reduceIte,qG,qH,qI,AM.a_buildSlice,List.range,List.range.loop,List.getD_cons_zero,List.getD_cons_succ,Nat.mod_one,Nat.reduceMod,Nat.reduceMul]
   subst hQ
   refine ⟨congrArg AVal.bool (decide_eq_true ?_),(((fA.trans f1).trans (hfNon f2)).trans f3).trans f4⟩
   refine congrArg (fun z=>[((1:Int),(0:Int),z),(3,0,0)]) ?_
   rw [decide_eq_true (by show IntKind.i64.wrap nx<IntKind.i64.wrap ny;rw [ix,iy];exact c)];rfl
  ·have d:decide (x<y)=false:=decide_eq_false c
   have hw:wholeF 14 nx ny=some (some (bitI (decide (i64 nx<i64 ny)))):=by
    simp only [wholeF,if_pos k1,Int.reduceEq,if_true,if_false,or_false,true_or,or_true]
   refine AM.callI_of (shownS RR (goodInts (by omega) lx ly) (by decide) (showInts (by omega) hw) (steps:=9)) ?_
   rintro tv h2 ⟨F2,s2,f2⟩
   have c2:=SlRd.cl s2.rd
   simp -implicitDefEqProofs (disch:=first|exact dz _|fail) only [↓AM.R0,AM.R1,AM.R2,qA,qB,qC,qD,qE,↓reduceIte,qG,qH,qI,AM.a_buildSlice,List.range,List.range.loop,List.getD_cons_zero,List.getD_cons_succ,Nat.mod_one,Nat.reduceMod,Nat.reduceMul,c2,d]
   refine AM.callI_of (awake h2) ?_
   rintro r h3 ⟨rfl,f3⟩
   simp -implicitDefEqProofs (disch:=first|exact dz _|fail) only [↓AM.R0,AM.R1,AM.R2,qA,qB,qC,qD,qE,↓reduceIte,qG,qH,qI,AM.a_buildSlice,List.range,List.range.loop,List.getD_cons_zero,List.getD_cons_succ,Nat.mod_one,Nat.reduceMod,Nat.reduceMul,c2]
   refine AM.callI_of (sameLit (s2.rd.keep f3) [(1,0,_),(3,0,0)] rfl (by simp [outI])) ?_
   rintro r h4 ⟨rfl,f4⟩
   simp -implicitDefEqProofs (disch:=first|exact dz _|fail) only [↓AM.R0,AM.R1,AM.R2,qA,qB,qC,qD,qE,↓reduceIte,qG,qH,qI,AM.a_buildSlice,List.range,List.range.loop,List.getD_cons_zero,List.getD_cons_succ,Nat.mod_one,Nat.reduceMod,Nat.reduceMul]
   subst hQ
   refine ⟨congrArg AVal.bool (decide_eq_true ?_),(((fA.trans f1).trans (hfNon f2)).trans f3).trans f4⟩
   refine congrArg (fun z=>[((1:Int),(0:Int),z),(3,0,0)]) ?_
   rw [decide_eq_false (by show ¬ IntKind.i64.wrap nx<IntKind.i64.wrap ny;rw [ix,iy];exact c)];rfl
end Go.Proofs.Ytnbnpjhlflcjeaa.Id