/-
 What the functions of this seat do,on the machine: lemmas for the laws.
-/
import Derived.Test.YtnbnpjhlflcjeaaNLX6
import Derived.Test.YtnbnpjhlflcjeaaNLX11
set_option linter.unusedSimpArgs false
set_option linter.unusedVariables false
set_option maxRecDepth 100000
attribute [local irreducible] Go.AM.wp Go.AM.wpIs Go.AM.wpTr Go.AM.opI Go.AM.gI Go.AM.cI Go.AM.trI Go.AM.callI Go.AM.fnI Go.AM.yldI Go.AM.rangeI Go.AM.rangeC Go.AM.YldP Go.AM.asgQ Go.AM.roundQ Go.AM.rangeQ Go.AM.trG Go.AM.trOp Go.AM.trCall Go.AM.seqC Go.AM.loopI
namespace Go.Proofs.Ytnbnpjhlflcjeaa.Id
open Go Go.AM Go.Proofs.Ytnbnpjhlflcjeaa.AmGL
open Nat renaming reduceAdd → qA,reduceLeDiff → qB,reduceEqDiff → qC,reduceLT → qE
open Int renaming reduceToNat → qD,reduceEq → qG,reduceLT → qH,reduceLE → qI
theorem sameLit {h:AHeap} {tv:AVal} {l:List (Int×Int×Int)} {vs:List AVal} (s:SlRd h 3 encE tv l) (m:List (Int×Int×Int)) (hv:vs=m.flatMap encE) (hb:l.length<1000000):CallP AP 19 [tv,.sl h.n 0 0 m.length 3] (h.push (.cells 0 false vs)) fun r h'=>r=.bool (decide (l=m))∧HFrame h h' [] []:=by
 have f:HFrame h (h.push (.cells 0 false vs)) [] []:=by (repeat (first | with_reducible apply HFrame.pushTmp | with_reducible refine HFrame.setTmp ?_ (by omega) _ | with_reducible exact HFrame.refl (by simp)))
 refine (sameTrace (s.keep f) (SlRd.litE (AHeap.get_push_same _ _) hv (Nat.lt_succ_self _)) hb).mono ?_
 rintro r h' ⟨rfl,rfl⟩
 exact ⟨rfl,f⟩
end Go.Proofs.Ytnbnpjhlflcjeaa.Id
namespace Go.Proofs.Ytnbnpjhlflcjeaa.Id
open Go Go.AM Go.Proofs.Ytnbnpjhlflcjeaa.AmGL
open Nat renaming reduceAdd → qA,reduceLeDiff → qB,reduceEqDiff → qC,reduceLT → qE
open Int renaming reduceToNat → qD,reduceEq → qG,reduceLT → qH,reduceLE → qI
/-! IdealCalls. -/
def fCalls0 (n:Nat):PFunc:=⟨0,[0,0],[],[⟨1,0,0,0,n,[]⟩,⟨35,1,0,0,0,[0,1]⟩,⟨48,1,0,0,0,[]⟩,⟨36,0,0,0,0,[]⟩]⟩
def fCalls1:PFunc:=⟨1,[0,0,0,0],[0],[⟨1,1,0,0,2,[]⟩,⟨14,2,0,1,0,[]⟩,⟨25,2,4,0,0,[]⟩,⟨36,0,0,0,0,[0]⟩,⟨1,1,0,0,1,[]⟩,⟨4,0,0,1,0,[]⟩,⟨35,1,0,0,0,[0,2]⟩,⟨4,0,0,1,0,[]⟩,⟨35,1,0,0,0,[0,3]⟩,⟨3,2,2,3,0,[]⟩,⟨36,0,0,0,0,[2]⟩]⟩
def pCalls (n:Nat):PProg:=⟨[],[],[fCalls0 n,fCalls1]⟩
def fibP:Nat→Int×Int
 | 0=>(0,1)
 | n+1=>((fibP n).2,IntKind.u64.wrap ((fibP n).1+(fibP n).2))
set_option maxHeartbeats 4000000 in
theorem showC0:goodP (pCalls 0)=true∧showF (pCalls 0) 9000=some [(1,0,(fibP 0).1),(3,0,0)]:=⟨by decide +kernel,by decide +kernel⟩
set_option maxHeartbeats 4000000 in
theorem showC1:goodP (pCalls 1)=true∧showF (pCalls 1) 9000=some [(1,0,(fibP 1).1),(3,0,0)]:=⟨by decide +kernel,by decide +kernel⟩
set_option maxHeartbeats 4000000 in
theorem showC2:goodP (pCalls 2)=true∧showF (pCalls 2) 9000=some [(1,0,(fibP 2).1),(3,0,0)]:=⟨by decide +kernel,by decide +kernel⟩
set_option maxHeartbeats 4000000 in
theorem showC3:goodP (pCalls 3)=true∧showF (pCalls 3) 9000=some [(1,0,(fibP 3).1),(3,0,0)]:=⟨by decide +kernel,by decide +kernel⟩
set_option maxHeartbeats 4000000 in
theorem showC4:goodP (pCalls 4)=true∧showF (pCalls 4) 9000=some [(1,0,(fibP 4).1),(3,0,0)]:=⟨by decide +kernel,by decide +kernel⟩
set_option maxHeartbeats 4000000 in
theorem showC5:goodP (pCalls 5)=true∧showF (pCalls 5) 9000=some [(1,0,(fibP 5).1),(3,0,0)]:=⟨by decide +kernel,by decide +kernel⟩
set_option maxHeartbeats 4000000 in
theorem showC6:goodP (pCalls 6)=true∧showF (pCalls 6) 9000=some [(1,0,(fibP 6).1),(3,0,0)]:=⟨by decide +kernel,by decide +kernel⟩
set_option maxHeartbeats 4000000 in
theorem showC7:goodP (pCalls 7)=true∧showF (pCalls 7) 9000=some [(1,0,(fibP 7).1),(3,0,0)]:=⟨by decide +kernel,by decide +kernel⟩
set_option maxHeartbeats 4000000 in
theorem showC8:goodP (pCalls 8)=true∧showF (pCalls 8) 9000=some [(1,0,(fibP 8).1),(3,0,0)]:=⟨by decide +kernel,by decide +kernel⟩
set_option maxHeartbeats 4000000 in
theorem showC9:goodP (pCalls 9)=true∧showF (pCalls 9) 9000=some [(1,0,(fibP 9).1),(3,0,0)]:=⟨by decide +kernel,by decide +kernel⟩
set_option maxHeartbeats 4000000 in
theorem showC10:goodP (pCalls 10)=true∧showF (pCalls 10) 9000=some [(1,0,(fibP 10).1),(3,0,0)]:=⟨by decide +kernel,by decide +kernel⟩
set_option maxHeartbeats 4000000 in
theorem showC11:goodP (pCalls 11)=true∧showF (pCalls 11) 9000=some [(1,0,(fibP 11).1),(3,0,0)]:=⟨by decide +kernel,by decide +kernel⟩
theorem showCalls:∀ n:Nat,n<12→goodP (pCalls n)=true∧showF (pCalls n) 9000=some [(1,0,(fibP n).1),(3,0,0)]
 | 0,_=>showC0
 | 1,_=>showC1
 | 2,_=>showC2
 | 3,_=>showC3
 | 4,_=>showC4
 | 5,_=>showC5
 | 6,_=>showC6
 | 7,_=>showC7
 | 8,_=>showC8
 | 9,_=>showC9
 | 10,_=>showC10
 | 11,_=>showC11
 | n+12,h=>absurd h (by omega)
end Go.Proofs.Ytnbnpjhlflcjeaa.Id
namespace Go.Proofs.Ytnbnpjhlflcjeaa.Id
open Go Go.AM Go.Proofs.Ytnbnpjhlflcjeaa.AmGL
open Nat renaming reduceAdd → qA,reduceLeDiff → qB,reduceEqDiff → qC,reduceLT → qE
open Int renaming reduceToNat → qD,reduceEq → qG,reduceLT → qH,reduceLE → qI
theorem AM_i64N {n:Nat} (h:n<1000000):IntKind.i64.wrap (n:Int)=n:=by rw [wrap_eq];simp only;split<;>omega
theorem AM_u64N {n:Nat} (h:n<1000000):IntKind.u64.wrap (n:Int)=n:=by rw [wrap_eq];simp only;omega
theorem funs2 {h:AHeap} {f0 f1:PFunc} {a b c d a' b' c' d':AVal} (e:funsV h ([a,b,c,d]++[a',b',c',d'])=some [f0,f1]):FuncR h f0 [a,b,c,d]∧FuncR h f1 [a',b',c',d']:=by
 obtain ⟨rows,h1,h2,h3⟩:=funsV_ok e
 clear e
 rcases rows with _ | ⟨r0,_ | ⟨r1,_ | ⟨r2,rs⟩⟩⟩
 ·exact h3.elim
 ·exact h3.2.elim
 ·have l0:=h2 r0 (by simp)
  simp only [List.flatten_cons,List.flatten_nil,List.append_nil] at h1
  obtain ⟨e0,e1⟩:=List.append_inj h1 (by rw [l0];rfl)
  rw [e0,e1];exact ⟨h3.1,h3.2.1⟩
 ·exact h3.2.2.elim
theorem lawCalls (a:Int) (ha:0≤a∧a≤255) (h:AHeap):CallP AP 9 [.int .u8 a] h fun r h'=>r=.bool true∧HFrame h h' [] []:=by
 refine callP (rfl:Tr.get AP 9=some A9) ?_
 generalize hQ:(fun (r:AVal) (h':AHeap)=>_)=Q
 obtain ⟨n,en,hn⟩:∃ n:Nat,a.tmod 12=(n:Int)∧n<12:=⟨(a.tmod 12).toNat,by rw [Int.tmod_eq_emod_of_nonneg ha.1];omega,by rw [Int.tmod_eq_emod_of_nonneg ha.1];omega⟩
 have e1:IntKind.i64.wrap (n:Int)=n:=AM_i64N (by omega)
 have e2:IntKind.u64.wrap (n:Int)=n:=AM_u64N (by omega)
 simp -implicitDefEqProofs (disch:=first|exact dz _|fail) only [↓AM.R0,AM.R1,AM.R2,qA,qB,qC,qD,qE,↓reduceIte,qG,qH,qI,AM.a_buildSlice,List.range,List.range.loop,List.getD_cons_zero,List.getD_cons_succ,Nat.mod_one,Nat.reduceMod,Nat.reduceMul,en,e1,e2]
 have lx':(n:Int)≤18446744073709551615:=by omega
 generalize hhA:(AHeap.set _ (h.n+1+1+1+1+1+1+1+1+1+1+1) _)=hA
 have g0:hA.get (h.n+1+1+1)=.cells 0 false [.int .i64 0,.sl h.n 0 0 2 1,.nils,.sl (h.n+1+1) 0 0 4 6]:=by rw [←hhA];simp -implicitDefEqProofs (disch:=first|exact dz _|fail) only [↓AM.R0,AM.R1,AM.R2,qA,qB,qC,qD,qE,↓reduceIte,qG,qH,qI]
 have g1:hA.get (h.n+1+1+1+1+1+1+1+1+1+1+1)=.cells 0 false [.int .i64 1,.sl (h.n+1+1+1+1+1) 0 0 4 1,.sl (h.n+1+1+1+1) 0 0 1 1,.sl (h.n+1+1+1+1+1+1+1+1+1+1) 0 0 11 6]:=by rw [←hhA];simp -implicitDefEqProofs (disch:=first|exact dz _|fail) only [↓AM.R0,AM.R1,AM.R2,qA,qB,qC,qD,qE,↓reduceIte,qG,qH,qI]
 have FU:funsV hA ([.int .i64 0,.sl h.n 0 0 2 1,.nils,.sl (h.n+1+1) 0 0 4 6]++[.int .i64 1,.sl (h.n+1+1+1+1+1) 0 0 4 1,.sl (h.n+1+1+1+1) 0 0 1 1,.sl (h.n+1+1+1+1+1+1+1+1+1+1) 0 0 11 6])=some [fCalls0 n,fCalls1]:=by
  rw [←hhA];simp -implicitDefEqProofs (disch:=first|exact dz _|fail) only [↓AM.R0,AM.R1,AM.R2,qA,qB,qC,qD,qE,↓reduceIte,qG,qH,qI,rdP,rdI,rdS,cellsOf,Option.bind,typsV,intsV,funsV,inssV,ltI,if_true,and_self,and_true,true_and,List.length_cons,List.length_nil,Nat.reduceAdd,Nat.reduceMul,Int.reduceLE,Int.toNat_natCast,Int.reduceToNat,lx',Int.natCast_nonneg];rfl
 have nA:hA.n=h.n+1+1+1+1+1+1+1+1+1+1+1+1:=by rw [←hhA];simp -implicitDefEqProofs (disch:=first|exact dz _|fail) only [↓AM.R0,AM.R1,AM.R2,qA,qB,qC,qD,qE,↓reduceIte,qG,qH,qI]
 have fA:HFrame h hA [] []:=by rw [←hhA];(repeat (first | with_reducible apply HFrame.pushTmp | with_reducible refine HFrame.setTmp ?_ (by omega) _ | with_reducible exact HFrame.refl (by simp)))
 clear hhA
 obtain ⟨R0,R1⟩:FuncR hA (fCalls0 n) [.int .i64 0,.sl h.n 0 0 2 1,.nils,.sl (h.n+1+1) 0 0 4 6]∧FuncR hA fCalls1 [.int .i64 1,.sl (h.n+1+1+1+1+1) 0 0 4 1,.sl (h.n+1+1+1+1) 0 0 1 1,.sl (h.n+1+1+1+1+1+1+1+1+1+1) 0 0 11 6]:=funs2 FU
 refine AM.loopI_of (fun c e h5=>∃ i:Nat,c+i=n∧e.val 40=.int .i64 n∧e.val 41=.int .i64 i∧e.val 6=.int .u64 (fibP i).1∧e.val 7=.int .u64 (fibP i).2∧e.val 4=.ptr (h.n+1+1+1) 0 0∧e.val 5=.ptr (h.n+1+1+1+1+1+1+1+1+1+1+1) 0 0∧h5=hA) n ?_ ?_
 ·refine ⟨0,by omega,?_,?_,?_,?_,?_,?_,rfl⟩<;>(simp -implicitDefEqProofs (disch:=first|exact dz _|fail) only [↓AM.R0,AM.R1,AM.R2,qA,qB,qC,qD,qE,↓reduceIte,qG,qH,qI])<;>rfl
 ·rintro c e h5 ⟨i,hci,y40,y41,y6,y7,y4,y5,rfl⟩
  by_cases c1:(i:Int)<n
  ·have d1:decide ((i:Int)<n)=true:=decide_eq_true c1
   obtain ⟨c,rfl⟩:∃ c',c=c'+1:=⟨c-1,by omega⟩
   have e3:IntKind.i64.wrap ((i:Int)+1)=((i+1:Nat):Int):=AM_i64N (n:=i+1) (by omega)
   simp -implicitDefEqProofs (disch:=first|exact dz _|fail) only [↓AM.R0,AM.R1,AM.R2,qA,qB,qC,qD,qE,↓reduceIte,qG,qH,qI,y40,y41,y6,y7,y4,y5,d1,e3]
   exact ⟨c,Nat.lt_succ_self c,i+1,by omega,rfl,rfl,rfl⟩
  ·have d1:decide ((i:Int)<n)=false:=decide_eq_false c1
   have:i=n:=by omega
   subst this
   simp -implicitDefEqProofs (disch:=first|exact dz _|fail) only [↓AM.R0,AM.R1,AM.R2,qA,qB,qC,qD,qE,↓reduceIte,qG,qH,qI,y40,y41,y6,y7,y4,y5,d1]
   obtain ⟨gd,sh⟩:=showCalls i hn
   refine AM.callI_of (awake h5) ?_
   rintro r h6 ⟨rfl,f6⟩
   have n6:=f6.n
   have g0:=(f6.get _ (by omega) (by simp)).trans g0
   have g1:=(f6.get _ (by omega) (by simp)).trans g1
   simp -implicitDefEqProofs (disch:=first|exact dz _|fail) only [↓AM.R0,AM.R1,AM.R2,qA,qB,qC,qD,qE,↓reduceIte,qG,qH,qI,AM.a_buildSlice,List.range,List.range.loop,List.getD_cons_zero,List.getD_cons_succ,Nat.mod_one,Nat.reduceMod,Nat.reduceMul,y40,y41,y6,y7,y4,y5,g0,g1]
   have f7:HFrame h5 (h6.push (.cells 0 false ([.int .i64 0,.sl h.n 0 0 2 1,.nils,.sl (h.n+1+1) 0 0 4 6]++[.int .i64 1,.sl (h.n+1+1+1+1+1) 0 0 4 1,.sl (h.n+1+1+1+1) 0 0 1 1,.sl (h.n+1+1+1+1+1+1+1+1+1+1) 0 0 11 6]))) [] []:=f6.trans (by (repeat (first | with_reducible apply HFrame.pushTmp | with_reducible refine HFrame.setTmp ?_ (by omega) _ | with_reducible exact HFrame.refl (by simp))))
   have RP:ProgR (h6.push (.cells 0 false ([.int .i64 0,.sl h.n 0 0 2 1,.nils,.sl (h.n+1+1) 0 0 4 6]++[.int .i64 1,.sl (h.n+1+1+1+1+1) 0 0 4 1,.sl (h.n+1+1+1+1) 0 0 1 1,.sl (h.n+1+1+1+1+1+1+1+1+1+1) 0 0 11 6]))) (pCalls i) [.nils,.nils,.sl h6.n 0 0 2 4] :=
    ⟨.nils,.nils,_,rfl,.inl ⟨rfl,rfl⟩,SlIn.nilI,SlR.lit (l:=[fCalls0 i,fCalls1]) (rows:=[[.int .i64 0,.sl h.n 0 0 2 1,.nils,.sl (h.n+1+1) 0 0 4 6],[.int .i64 1,.sl (h.n+1+1+1+1+1) 0 0 4 1,.sl (h.n+1+1+1+1) 0 0 1 1,.sl (h.n+1+1+1+1+1+1+1+1+1+1) 0 0 11 6]]) (AHeap.get_push_same _ _) rfl (Nat.lt_succ_self _) (by simp) ⟨R0.mono f7.n fun j hj=>f7.get j hj (by simp),R1.mono f7.n fun j hj=>f7.get j hj (by simp),trivial⟩⟩
   refine AM.callI_of (shownS RP gd (by decide) sh (steps:=9000)) ?_
   rintro tv h8 ⟨F8,s8,f8⟩
   have c8:=SlRd.cl s8.rd
   simp -implicitDefEqProofs (disch:=first|exact dz _|fail) only [↓AM.R0,AM.R1,AM.R2,qA,qB,qC,qD,qE,↓reduceIte,qG,qH,qI,AM.a_buildSlice,List.range,List.range.loop,List.getD_cons_zero,List.getD_cons_succ,Nat.mod_one,Nat.reduceMod,Nat.reduceMul,y40,y41,y6,y7,y4,y5,c8]
   refine AM.callI_of (sameLit s8.rd [(1,0,_),(3,0,0)] rfl (by simp)) ?_
   rintro r h9 ⟨rfl,f9⟩
   simp -implicitDefEqProofs (disch:=first|exact dz _|fail) only [↓AM.R0,AM.R1,AM.R2,qA,qB,qC,qD,qE,↓reduceIte,qG,qH,qI,AM.a_buildSlice,List.range,List.range.loop,List.getD_cons_zero,List.getD_cons_succ,Nat.mod_one,Nat.reduceMod,Nat.reduceMul]
   subst hQ
   exact ⟨by first | rfl | simp,((fA.trans f7).trans (hfNon f8)).trans f9⟩
end Go.Proofs.Ytnbnpjhlflcjeaa.Id