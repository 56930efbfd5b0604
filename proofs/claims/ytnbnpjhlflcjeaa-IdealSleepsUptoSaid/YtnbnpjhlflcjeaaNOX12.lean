/-
 What the functions of this seat do,on the machine: lemmas for the laws.
-/
import Derived.Test.YtnbnpjhlflcjeaaNOX6
import Derived.Test.YtnbnpjhlflcjeaaNOX11
set_option linter.unusedSimpArgs false
set_option linter.unusedVariables false
set_option maxRecDepth 100000
attribute [local irreducible] Go.AM.wp Go.AM.wpIs Go.AM.wpTr Go.AM.opI Go.AM.gI Go.AM.cI Go.AM.trI Go.AM.callI Go.AM.fnI Go.AM.yldI Go.AM.rangeI Go.AM.rangeC Go.AM.YldP Go.AM.asgQ Go.AM.roundQ Go.AM.rangeQ Go.AM.trG Go.AM.trOp Go.AM.trCall Go.AM.seqC Go.AM.loopI
namespace Go.Proofs.Ytnbnpjhlflcjeaa.Id
open Go Go.AM Go.Proofs.Ytnbnpjhlflcjeaa.AmGO
open Nat renaming reduceAdd → qA,reduceLeDiff → qB,reduceEqDiff → qC,reduceLT → qE
open Int renaming reduceToNat → qD,reduceEq → qG,reduceLT → qH,reduceLE → qI
theorem wrap_i64 {n:Int} (h1:-9223372036854775808≤n) (h2:n≤9223372036854775807):IntKind.i64.wrap n=n:=by
 rw [wrap_eq];simp only;split<;>omega
theorem u64_nat (x:Int):∃ n:Nat,IntKind.u64.wrap x=n∧n≤18446744073709551615:=by
 refine ⟨(IntKind.u64.wrap x).toNat,?_,?_⟩<;>rw [wrap_eq]<;>simp only<;>omega
theorem i64_u64 (x:Int):IntKind.i64.wrap (IntKind.u64.wrap x)=IntKind.i64.wrap x:=by
 simp only [wrap_eq,Int.emod_emod]
end Go.Proofs.Ytnbnpjhlflcjeaa.Id
namespace Go.Proofs.Ytnbnpjhlflcjeaa.Id
open Go Go.AM Go.Proofs.Ytnbnpjhlflcjeaa.AmGO
open Nat renaming reduceAdd → qA,reduceLeDiff → qB,reduceEqDiff → qC,reduceLT → qE
open Int renaming reduceToNat → qD,reduceEq → qG,reduceLT → qH,reduceLE → qI
section
variable {h h' h1:AHeap} {γ:GI} {R:Run}
def tickR (R:Run) (c:Int) (z:Nat):Run:={ R with clock:=c,gs:=(R.gs.take z).map (wakeUp c)++R.gs.drop z }
theorem tickR_at {R:Run} {c:Int} {z:Nat} {r:Routine} (hr:R.gs[z]?=some r):(tickR R c z).gs[z]?=some r:=by
 have hi:=List.getElem?_eq_some_iff.1 hr
 have hz:=hi.1
 show ((R.gs.take z).map (wakeUp c)++R.gs.drop z)[z]?=some r
 rw [List.getElem?_append_right (by simp;omega)]
 simp only [List.length_map,List.length_take,List.getElem?_drop]
 rw [←hr];congr 1;omega
theorem tickR_set {R:Run} {c:Int} {z:Nat} {r:Routine} (hr:R.gs[z]?=some r):(tickR R c z).setR z (wakeUp c r)=tickR R c (z+1):=by
 have hi:=List.getElem?_eq_some_iff.1 hr
 have hz:=hi.1
 have e:R.gs.drop z=r::R.gs.drop (z+1):=by rw [List.drop_eq_getElem_cons hi.1,hi.2]
 have t:R.gs.take (z+1)=R.gs.take z++[r]:=by rw [List.take_add_one,hr];rfl
 unfold tickR Run.setR
 simp only [Run.mk.injEq,true_and,and_true]
 rw [t,e,List.map_append,List.set_append_right _ _ (by simp;omega)]
 have:z-(List.map (wakeUp c) (R.gs.take z)).length=0:=by simp;omega
 rw [this];simp
theorem tickR_same {R:Run} {c:Int} {z:Nat} {r:Routine} (hr:R.gs[z]?=some r) (hw:wakeUp c r=r):tickR R c z=tickR R c (z+1):=by
 rw [←tickR_set hr,hw]
 unfold Run.setR
 rw [set_self (tickR_at hr)]
set_option maxHeartbeats 2000000 in
theorem tick (P:RunP h γ R) {n:Int} (hb:R.gs.length<1000000):CallP AP 25 [.ptr γ.d 0 0,.int .u64 n] h fun v h'=>v=.int .i64 (R.tick n).1∧∃ γ',RunP h' γ' (R.tick n).2∧Nxt h h' γ γ':=by
 refine callP (rfl:Tr.get AP 25=some A25) ?_
 generalize hQ:(fun (r:AVal) (h':AHeap)=>_)=Q
 have ho:=P.obj
 have hlt:=P.ltd
 cases ce:R.ended with
 | true =>
  simp -implicitDefEqProofs (disch:=first|exact dz _|fail) only [↓AM.R0,AM.R1,AM.R2,qA,qB,qC,qD,qE,↓reduceIte,qG,qH,qI,ho,ce]
  subst hQ
  simp only [Run.tick,ce,if_true]
  exact ⟨by first | rfl | trivial,γ,P,Nxt.refl _ _⟩
 | false =>
  obtain ⟨c,hc⟩:∃ c,c=min (IntKind.u64.wrap (R.clock+min n 1099511627776)) 1099511627776:=⟨_,rfl⟩
  obtain ⟨P1,N1⟩:=P.setD (clock:=c) (ended:=R.ended) (g:=R.g) ((Chg.refl (·=.d) h γ.K).set (i:=γ.d) (fun _=>P.kd) (.cells 0 false [γ.tv,γ.gv,γ.fv,γ.glv,γ.thv,γ.gsv,.int .u64 c,γ.trv,.bool R.ended,.int .i64 R.g])) (AHeap.get_set_same _ _ _)
  have hgl:=P1.gs.len
  have hll:=P1.gsAll.1
  have eg:(γ.gs.map (·.1)).length=γ.gs.length:=List.length_map _
  rw [eg] at hgl
  rw [ce] at P1 N1
  simp -implicitDefEqProofs (disch:=first|exact dz _|fail) only [↓AM.R0,AM.R1,AM.R2,qA,qB,qC,qD,qE,↓reduceIte,qG,qH,qI,ho,ce,hgl,←hc]
  generalize (h.set γ.d (.cells 0 false [γ.tv,γ.gv,γ.fv,γ.glv,γ.thv,γ.gsv,.int .u64 c,γ.trv,.bool false,.int .i64 R.g]))=h1 at *
  have P1:RunP h1 γ (tickR R c 0):=by
   have:tickR R c 0={ R with clock:=c,ended:=false,g:=R.g }:=by simp [tickR,ce]
   rw [this];exact P1
  have fin:R.tick n=(0,tickR R c R.gs.length):=by
   simp only [Run.tick,ce,Bool.false_eq_true,if_false,Run.clockOn,tickR,List.take_length,List.drop_length,List.append_nil]
   rw [hc];rfl
  refine AM.loopI_of (fun k e h5=>∃ z:Nat,k+z=γ.gs.length∧e.val 0=.ptr γ.d 0 0∧e.val 29=γ.gsv∧e.val 30=.int .i64 (γ.gs.length:Int)∧e.val 31=.int .i64 (z:Int)∧RunP h5 γ (tickR R c z)∧Nxt h h5 γ γ) γ.gs.length ?_ ?_
  ·refine ⟨0,by omega,?_,?_,?_,?_,P1,N1⟩<;>(simp -implicitDefEqProofs (disch:=first|exact dz _|fail) only [↓AM.R0,AM.R1,AM.R2,qA,qB,qC,qD,qE,↓reduceIte,qG,qH,qI])<;>rfl
  ·rintro k e h5 ⟨z,hkz,z0,z29,z30,z31,P5,N5⟩
   simp -implicitDefEqProofs (disch:=first|exact dz _|fail) only [↓AM.R0,AM.R1,AM.R2,qA,qB,qC,qD,qE,↓reduceIte,qG,qH,qI,z30,z31]
   have hll':γ.gs.length=R.gs.length:=P.gsAll.1
   refine AM.cI_bool (fun hc'=>?_) (fun hc'=>?_)
   ·simp only [decide_eq_true_eq] at hc'
    obtain ⟨r,hr⟩:∃ r,R.gs[z]?=some r:=⟨_,List.getElem?_eq_getElem (by omega)⟩
    have hr5:=tickR_at (c:=c) hr
    obtain ⟨x,fv,hx,s⟩:=P5.rt hr5
    have hro:=s.obj
    have hrlt:=s.lt
    have ho5:=P5.obj
    have hd5:=P5.ltd
    have hcl:(tickR R c z).clock=c:=rfl
    rw [hcl] at ho5
    obtain ⟨id1,g1,off1,vs1,t1,t2,t3,t4⟩:=P5.gs.ix (enc:=fun id=>.ptr id 0 0) (at?_of (n:=z) (a:=x.1) (by rw [List.getElem?_map,hx];rfl))
    have wz:IntKind.i64.wrap ((z:Int)+1)=((z+1:Nat):Int):=(wrap64 (by omega) (by omega)).trans (by omega)
    cases c2:r.sleeps with
    | false =>
     have hw:wakeUp c r=r:=by simp [wakeUp,c2]
     rw [tickR_same hr hw] at P5
     simp -implicitDefEqProofs (disch:=first|exact dz _|fail) only [↓AM.R0,AM.R1,AM.R2,qA,qB,qC,qD,qE,↓reduceIte,qG,qH,qI,z0,z29,z31,t1,t2,t4,hro,c2,wz]
     exact ⟨k-1,by omega,z+1,by omega,z30,rfl,P5,N5⟩
    | true =>
     by_cases c3:r.till≤c
     ·have d3:decide (r.till≤c)=true:=decide_eq_true c3
      have hw:wakeUp c r={ r with sleeps:=false,state:=1 }:=by simp [wakeUp,c2,c3]
      simp -implicitDefEqProofs (disch:=first|exact dz _|fail) only [↓AM.R0,AM.R1,AM.R2,qA,qB,qC,qD,qE,↓reduceIte,qG,qH,qI,z0,z29,z31,t1,t2,t4,hro,ho5,c2,d3,wz]
      obtain ⟨P6,N6⟩:=P5.setRow0 (r':={ r with sleeps:=false,state:=1 }) (((Chg.refl (·=.rt z) h5 γ.K).set (i:=x.1) (fun _=>s.kid) _).set (i:=x.1) (fun _=>s.kid) _) hr5 hx s rfl (AHeap.get_set_same _ _ _)
      have e6:=tickR_set (c:=c) hr
      rw [hw] at e6
      rw [e6] at P6
      exact ⟨k-1,by omega,z+1,by omega,z30,rfl,P6,N5.trans N6⟩
     ·have d3:decide (r.till≤c)=false:=decide_eq_false c3
      have hw:wakeUp c r=r:=by simp [wakeUp,c3]
      rw [tickR_same hr hw] at P5
      simp -implicitDefEqProofs (disch:=first|exact dz _|fail) only [↓AM.R0,AM.R1,AM.R2,qA,qB,qC,qD,qE,↓reduceIte,qG,qH,qI,z0,z29,z31,t1,t2,t4,hro,ho5,c2,d3,wz]
      exact ⟨k-1,by omega,z+1,by omega,z30,rfl,P5,N5⟩
   ·simp only [decide_eq_false_iff_not] at hc'
    simp -implicitDefEqProofs (disch:=first|exact dz _|fail) only [↓AM.R0,AM.R1,AM.R2,qA,qB,qC,qD,qE,↓reduceIte,qG,qH,qI]
    have:z=R.gs.length:=by omega
    subst this
    subst hQ
    rw [fin]
    exact ⟨rfl,γ,P5,N5⟩
end
end Go.Proofs.Ytnbnpjhlflcjeaa.Id
namespace Go.Proofs.Ytnbnpjhlflcjeaa.Id
open Go Go.AM Go.Proofs.Ytnbnpjhlflcjeaa.AmGO
open Nat renaming reduceAdd → qA,reduceLeDiff → qB,reduceEqDiff → qC,reduceLT → qE
open Int renaming reduceToNat → qD,reduceEq → qG,reduceLT → qH,reduceLE → qI
/-! IdealSleeps. -/
def cSleeps (x:Nat):List PIns:=[⟨1,1,0,0,x,[]⟩,⟨46,1,0,0,0,[]⟩,⟨36,0,0,0,0,[]⟩]
def sSl (x:Nat) (pc state till:Int) (sl:Bool) (c:Int):Run:=⟨pOne (cSleeps x),[],[⟨0,[],none⟩],[⟨state,till,sl,[⟨0,pc,1,[0,x,0,0,0,0,0,0,0,0],[],[],0,false,[]⟩],1,false,0,false⟩],c,[],false,0⟩
def tSl (x:Int):Int:=if x≤0 then 0 else min x 1099511627776
def rSl (n:Nat) (x now:Int):Run:=if x≤now then sSl n 2 1 (tSl x) false now else sSl n 2 2 (tSl x) true now
theorem goodSl (x:Nat) (hx:x≤18446744073709551615):goodP (pOne (cSleeps x))=true:=by
 simp only [goodP,Bool.and_eq_true,decide_eq_true_eq]
 refine ⟨⟨?_,by kernel_rfl⟩,by kernel_rfl⟩
 simp only [cSleeps,okP,okF,okI,pOne,List.all_cons,List.all_nil,hx,Bool.and_true,Bool.true_and,decide_true,if_true,Bool.false_eq_true,if_false]
 kernel_rfl
def sSl0 (x:Nat):Run:=⟨pOne (cSleeps x),[],[⟨0,[],none⟩],[⟨1,0,false,[⟨0,0,1,[0,0,0,0,0,0,0,0,0,0],[],[],0,false,[]⟩],1,false,0,false⟩],0,[],false,0⟩
theorem newSl (x:Nat):Run.new (pOne (cSleeps x))=some (sSl0 x):=by kernel_rfl
theorem stepSl1 (x:Nat):(sSl0 x).step 0 0=some (0,sSl x 1 1 0 false 0):=by kernel_rfl
theorem stepSl2a (x:Nat):(sSl x 1 1 0 false 0).step 0 0=((sSl x 2 1 0 false 0).sleep 0 (i64 x)).bind fun d=>d.ending.map fun d=>((0:Int),d):=by kernel_rfl
theorem stepSl2 {n:Nat} {x:Int} (ix:IntKind.i64.wrap n=x) (hx:x≤9223372036854775807):(sSl n 1 1 0 false 0).step 0 0=some (0,rSl n x 0):=by
 rw [stepSl2a,show i64 (n:Int)=x from ix]
 unfold Run.sleep rSl tSl
 by_cases c:x≤0
 ·rw [if_pos (.inl c),if_pos c,if_pos c];rfl
 ·rw [if_neg (by rintro (e | e);exact c e;cases e),if_neg c,if_neg c]
  have e1:u64 x=x:=wrapU64 (by omega) (by omega)
  have e2:min (u64 ((sSl n 2 1 0 false 0).clock+min (u64 x) 1099511627776)) 1099511627776=min x 1099511627776:=by
   rw [e1]
   show min (u64 (0+min x 1099511627776)) 1099511627776=_
   rw [show u64 (0+min x 1099511627776)=0+min x 1099511627776 from wrapU64 (by omega) (by omega)];omega
  rw [e2];rfl
theorem tickSl {n:Nat} {x now d:Int} (h0:0≤now) (h1:now≤1000000000) (d0:0≤d) (d1:d≤255):(rSl n x now).tick d=(0,rSl n x (now+d)):=by
 have e:min (u64 (now+min d 1099511627776)) 1099511627776=now+d:=by
  rw [show min d 1099511627776=d by omega,show u64 (now+d)=now+d from wrapU64 (by omega) (by omega)];omega
 unfold rSl
 by_cases c:x≤now
 ·rw [if_pos c,if_pos (by omega)]
  simp only [Run.tick,sSl,Bool.false_eq_true,if_false,Run.clockOn,e]
  rfl
 ·rw [if_neg c]
  have ht:tSl x≤now+d↔x≤now+d:=by unfold tSl;rw [if_neg (by omega)];omega
  by_cases c2:x≤now+d
  ·rw [if_pos c2]
   simp only [Run.tick,sSl,Bool.false_eq_true,if_false,Run.clockOn,e,List.map_cons,List.map_nil,wakeUp,ht,c2,and_self,if_true]
  ·rw [if_neg c2]
   simp only [Run.tick,sSl,Bool.false_eq_true,if_false,Run.clockOn,e,List.map_cons,List.map_nil,wakeUp,ht,c2,and_false,if_false]
theorem stSl (n:Nat) (x now:Int):(rSl n x now).stateOf 0=if x≤now then 1 else 2:=by
 unfold rSl;split<;>rfl
theorem lenSl (n:Nat) (x now:Int):(rSl n x now).gs.length<1000000:=by
 unfold rSl;split<;>exact (by decide:1<1000000)
theorem endSl (n:Nat) (x now:Int):∃ R,(rSl n x now).step 0 0=some (if x≤now then 0 else 5,R)∧R.ended=decide (x≤now):=by
 unfold rSl
 by_cases c:x≤now
 ·rw [if_pos c,if_pos c,decide_eq_true c]
  let f:Option (Int×Run):=(sSl n 2 1 (tSl x) false now).step 0 0
  have hf:f.map (fun y=>(y.1,y.2.ended))=some (0,true):=by kernel_rfl
  obtain ⟨y,h1,h2⟩:=Option.map_eq_some_iff.1 hf
  obtain ⟨y1,y2⟩:=y
  simp only [Prod.mk.injEq] at h2
  obtain ⟨rfl,h3⟩:=h2
  exact ⟨y2,h1,h3⟩
 ·rw [if_neg c,if_neg c,decide_eq_false c]
  exact ⟨_,rfl,rfl⟩
end Go.Proofs.Ytnbnpjhlflcjeaa.Id
namespace Go.Proofs.Ytnbnpjhlflcjeaa.Id
open Go Go.AM Go.Proofs.Ytnbnpjhlflcjeaa.AmGO
open Nat renaming reduceAdd → qA,reduceLeDiff → qB,reduceEqDiff → qC,reduceLT → qE
open Int renaming reduceToNat → qD,reduceEq → qG,reduceLT → qH,reduceLE → qI
theorem bq1:(true==true)=true:=rfl
theorem bq2:(false==false)=true:=rfl
theorem bq3:(true==false)=false:=rfl
theorem bq4:(false==true)=false:=rfl
theorem sum_bound {l:List Int} (hb:∀ b,b∈l→0≤b∧b≤255) (i:Nat):0≤(l.take i).sum∧(l.take i).sum≤255*i:=by
 induction i with
 | zero=>simp
 | succ i ih =>
  rw [List.take_add_one]
  cases h:l[i]? with
  | none=>simp;omega
  | some a =>
   have:=hb a (List.mem_of_getElem? h)
   simp;omega
set_option maxHeartbeats 2000000 in
theorem lawSleeps {h:AHeap} {v:AVal} {l:List Int} (L:SlIn h 1 encB v l) (hb:∀ b,b∈l→0≤b∧b≤255) (hl:l.length≤1048576) (x:Int) (hx:-9223372036854775808≤x∧x≤9223372036854775807):CallP AP 10 [.int .i64 x,v] h fun r h'=>r=.bool true:=by
 refine callP (rfl:Tr.get AP 10=some A10) ?_
 generalize hQ:(fun (r:AVal) (h':AHeap)=>_)=Q
 simp -implicitDefEqProofs (disch:=first|exact dz _|fail) only [↓AM.R0,AM.R1,AM.R2,qA,qB,qC,qD,qE,↓reduceIte,qG,qH,qI,AM.a_buildSlice,List.range,List.range.loop,List.getD_cons_zero,List.getD_cons_succ,Nat.mod_one,Nat.reduceMod,Nat.reduceMul]
 obtain ⟨nx,ex,lx⟩:∃ n:Nat,IntKind.u64.wrap x=n∧n≤18446744073709551615:=u64_nat x
 rw [ex]
 have ix:IntKind.i64.wrap nx=x:=by rw [←ex,i64_u64,wrap_i64 hx.1 hx.2]
 have lx':(nx:Int)≤18446744073709551615:=by omega
 have fA:HFrame h (h.push (.cells 0 false [.int .i64 1,.int .i64 1,.int .i64 0,.int .i64 0,.int .u64 nx,.nils,.int .i64 46,.int .i64 1,.int .i64 0,.int .i64 0,.int .u64 0,.nils,.int .i64 36,.int .i64 0,.int .i64 0,.int .i64 0,.int .u64 0,.nils])) [] []:=by (repeat (first | with_reducible apply HFrame.pushTmp | with_reducible refine HFrame.setTmp ?_ (by omega) _ | with_reducible exact HFrame.refl (by simp)))
 refine AM.callI_of (one (code:=cSleeps nx) (rdC_ok (by simp -implicitDefEqProofs (disch:=first|exact dz _|fail) only [↓AM.R0,AM.R1,AM.R2,qA,qB,qC,qD,qE,↓reduceIte,qG,qH,qI,rdP,rdI,rdS,cellsOf,Option.bind,typsV,intsV,funsV,inssV,ltI,if_true,and_self,and_true,true_and,List.length_cons,List.length_nil,Nat.reduceAdd,Nat.reduceMul,Int.reduceLE,Int.toNat_natCast,Int.reduceToNat,lx',Int.natCast_nonneg];rfl))) ?_
 rintro r h1 ⟨f1,row,rfl,RR⟩
 have fh:=fA.trans f1
 generalize (h.push _)=hA at *
 simp -implicitDefEqProofs (disch:=first|exact dz _|fail) only [↓AM.R0,AM.R1,AM.R2,qA,qB,qC,qD,qE,↓reduceIte,qG,qH,qI]
 obtain ⟨q1,q2,q3⟩:=goodP_get (goodSl nx lx)
 refine AM.callI_of (newOk RR q1 q2 q3 (newSl nx)) ?_
 rintro r h2 ⟨γ,rfl,P2,f2,hK⟩
 have n1:=fh.n
 have n2:=f2.n
 have F3:=(((fh.trans f2).pushTmp (.cells 0 false [.int .i64 0,.int .i64 0,.int .i64 0])).setTmp (i:=h2.n) (by omega) (.cells 0 false [.int .i64 0,.int .i64 0,.int .i64 0]))
 have P3:=P2.tmp (Chg.tmp h2 γ.K (.cells 0 false [.int .i64 0,.int .i64 0,.int .i64 0]) (.cells 0 false [.int .i64 0,.int .i64 0,.int .i64 0]))
 have g3:((h2.push (.cells 0 false [.int .i64 0,.int .i64 0,.int .i64 0])).set h2.n (.cells 0 false [.int .i64 0,.int .i64 0,.int .i64 0])).get h2.n=.cells 0 false [.int .i64 0,.int .i64 0,.int .i64 0]:=AHeap.get_set_same _ _ _
 have n3:((h2.push (.cells 0 false [.int .i64 0,.int .i64 0,.int .i64 0])).set h2.n (.cells 0 false [.int .i64 0,.int .i64 0,.int .i64 0])).n=h2.n+1:=rfl
 simp -implicitDefEqProofs (disch:=first|exact dz _|fail) only [↓AM.R0,AM.R1,AM.R2,qA,qB,qC,qD,qE,↓reduceIte,qG,qH,qI]
 generalize ((h2.push (.cells 0 false [.int .i64 0,.int .i64 0,.int .i64 0])).set h2.n (.cells 0 false [.int .i64 0,.int .i64 0,.int .i64 0]))=h3 at *
 have hK':∀ j,j<h.n→γ.K j=.no:=fun j hj=>hK j (by omega)
 refine AM.callI_of (awake h3) ?_
 rintro r h4 ⟨rfl,f4⟩
 have n4:=f4.n
 have g4:=(f4.get _ (by omega) (by simp)).trans g3
 simp -implicitDefEqProofs (disch:=first|exact dz _|fail) only [↓AM.R0,AM.R1,AM.R2,qA,qB,qC,qD,qE,↓reduceIte,qG,qH,qI,g4]
 have P4:=P3.tmp (Chg.ofH f4)
 refine AM.callI_of (step P4 (stepSl1 nx)) ?_
 rintro r h5 ⟨rfl,γ5,P5,N5⟩
 simp -implicitDefEqProofs (disch:=first|exact dz _|fail) only [↓AM.R0,AM.R1,AM.R2,qA,qB,qC,qD,qE,↓reduceIte,qG,qH,qI]
 have s:=step P5 (stepSl2 ix hx.2)
 rw [N5.d] at s
 refine AM.callI_of s ?_
 rintro r h6 ⟨rfl,γ6,P6,N6⟩
 have N6:=N5.trans N6
 have ed:=N6.d
 have LL:∀ hZ,HFrame h hZ [] []→SlIn hZ 1 encB v l:=fun hZ f=>L.mono f.n fun j hj=>f.get j hj (by simp)
 have F6:=HFrame.nxt (F3.trans f4) N6 hK'
 have vc:=SlIn.cellv L
 have hlen:=fun hZ=>SlIn.len L hZ
 simp -implicitDefEqProofs (disch:=first|exact dz _|fail) only [↓AM.R0,AM.R1,AM.R2,qA,qB,qC,qD,qE,↓reduceIte,qG,qH,qI,hlen]
 refine AM.loopI_of (fun c e h7=>∃ (i:Nat) (γ7:GI),c+i=l.length∧e.val 0=.int .i64 x∧e.val 1=v∧e.val 5=.ptr γ.d 0 0∧e.val 7=.int .i64 (l.take i).sum∧e.val 42=v∧e.val 43=.int .i64 l.length∧e.val 44=.int .i64 i∧RunP h7 γ7 (rSl nx x (l.take i).sum)∧Nxt h4 h7 γ γ7) l.length ?_ ?_
 ·refine ⟨0,γ6,by omega,?_,?_,?_,?_,?_,?_,?_,P6,N6⟩<;>(simp -implicitDefEqProofs (disch:=first|exact dz _|fail) only [↓AM.R0,AM.R1,AM.R2,qA,qB,qC,qD,qE,↓reduceIte,qG,qH,qI])<;>rfl
 ·rintro c e h7 ⟨i,γ7,hci,y0,y1,y5,y7,y42,y43,y44,P7,N7⟩
  have F7:=HFrame.nxt (F3.trans f4) N7 hK'
  have st:=stateG P7 0
  rw [stSl,N7.d] at st
  by_cases c1:(i:Int)<l.length
  ·have d1:decide ((i:Int)<l.length)=true:=decide_eq_true c1
   simp -implicitDefEqProofs (disch:=first|exact dz _|fail) only [↓AM.R0,AM.R1,AM.R2,qA,qB,qC,qD,qE,↓reduceIte,qG,qH,qI,y0,y1,y5,y7,y42,y43,y44,d1]
   obtain ⟨a,ha⟩:∃ a,l[i]?=some a:=⟨_,List.getElem?_eq_getElem (by omega)⟩
   have hba:=hb a (List.mem_of_getElem? ha)
   obtain ⟨id1,g1,off1,vs1,ro1,t1,t2,t3,t4⟩:=SlRd.ixI (enc:=fun n=>.int .u8 n) ((LL h7 F7).rd ha) (at?_of (n:=i) ha)
   have hs:(l.take (i+1)).sum=(l.take i).sum+a:=by rw [List.take_add_one,ha];simp
   have hs0:=sum_bound hb i
   have hi':(i:Int)≤1048576:=by omega
   have w1:IntKind.u64.wrap a=a:=wrapU64 (by omega) (by omega)
   have w2:IntKind.i64.wrap a=a:=wrap_i64 (by omega) (by omega)
   have w3:IntKind.i64.wrap ((l.take i).sum+a)=(l.take i).sum+a:=wrap_i64 (by omega) (by omega)
   have wz:IntKind.i64.wrap ((i:Int)+1)=((i+1:Nat):Int):=(wrap64 (by omega) (by omega)).trans (by omega)
   have tk:=tick (n:=a) P7 (lenSl _ _ _)
   rw [tickSl (by omega) (by omega) hba.1 hba.2,N7.d,←hs] at tk
   rw [←hs] at w3
   by_cases c2:x≤(l.take i).sum
   ·rw [if_pos c2] at st
    have d2:decide (x≤(l.take i).sum)=true:=decide_eq_true c2
    have d3:decide ((l.take i).sum<x)=false:=decide_eq_false (by omega)
    simp -implicitDefEqProofs (disch:=first|exact dz _|fail) only [↓AM.R0,AM.R1,AM.R2,qA,qB,qC,qD,qE,↓reduceIte,qG,qH,qI,y0,y1,y5,y7,y42,y43,y44,t1,t2,t4]
    refine AM.callI_of st ?_
    rintro r h8 ⟨rfl,rfl⟩
    simp -implicitDefEqProofs (disch:=first|exact dz _|fail) only [↓AM.R0,AM.R1,AM.R2,qA,qB,qC,qD,qE,↓reduceIte,qG,qH,qI,y0,y1,y5,y7,y42,y43,y44,d2,d3,bq1,bq2,bq3,bq4,Bool.not_true,Bool.not_false]
    refine AM.callI_of st ?_
    rintro r h9 ⟨rfl,rfl⟩
    simp -implicitDefEqProofs (disch:=first|exact dz _|fail) only [↓AM.R0,AM.R1,AM.R2,qA,qB,qC,qD,qE,↓reduceIte,qG,qH,qI,y0,y1,y5,y7,y42,y43,y44,d2,d3,w1,bq1,bq2,bq3,bq4,Bool.not_true,Bool.not_false]
    refine AM.callI_of tk ?_
    rintro r h10 ⟨rfl,γ10,P10,N10⟩
    simp -implicitDefEqProofs (disch:=first|exact dz _|fail) only [↓AM.R0,AM.R1,AM.R2,qA,qB,qC,qD,qE,↓reduceIte,qG,qH,qI,y0,y1,y5,y7,y42,y43,y44,w2,←hs,w3,wz]
    exact ⟨c-1,by omega,i+1,γ10,by omega,rfl,rfl,P10,N7.trans N10⟩
   ·rw [if_neg c2] at st
    have d2:decide (x≤(l.take i).sum)=false:=decide_eq_false c2
    have d3:decide ((l.take i).sum<x)=true:=decide_eq_true (by omega)
    simp -implicitDefEqProofs (disch:=first|exact dz _|fail) only [↓AM.R0,AM.R1,AM.R2,qA,qB,qC,qD,qE,↓reduceIte,qG,qH,qI,y0,y1,y5,y7,y42,y43,y44,t1,t2,t4]
    refine AM.callI_of st ?_
    rintro r h8 ⟨rfl,rfl⟩
    simp -implicitDefEqProofs (disch:=first|exact dz _|fail) only [↓AM.R0,AM.R1,AM.R2,qA,qB,qC,qD,qE,↓reduceIte,qG,qH,qI,y0,y1,y5,y7,y42,y43,y44,d2,d3,bq1,bq2,bq3,bq4,Bool.not_true,Bool.not_false]
    refine AM.callI_of st ?_
    rintro r h9 ⟨rfl,rfl⟩
    simp -implicitDefEqProofs (disch:=first|exact dz _|fail) only [↓AM.R0,AM.R1,AM.R2,qA,qB,qC,qD,qE,↓reduceIte,qG,qH,qI,y0,y1,y5,y7,y42,y43,y44,d2,d3,w1,bq1,bq2,bq3,bq4,Bool.not_true,Bool.not_false]
    refine AM.callI_of tk ?_
    rintro r h10 ⟨rfl,γ10,P10,N10⟩
    simp -implicitDefEqProofs (disch:=first|exact dz _|fail) only [↓AM.R0,AM.R1,AM.R2,qA,qB,qC,qD,qE,↓reduceIte,qG,qH,qI,y0,y1,y5,y7,y42,y43,y44,w2,←hs,w3,wz]
    exact ⟨c-1,by omega,i+1,γ10,by omega,rfl,rfl,P10,N7.trans N10⟩
  ·have d1:decide ((i:Int)<l.length)=false:=decide_eq_false c1
   simp -implicitDefEqProofs (disch:=first|exact dz _|fail) only [↓AM.R0,AM.R1,AM.R2,qA,qB,qC,qD,qE,↓reduceIte,qG,qH,qI,y0,y1,y5,y7,y42,y43,y44,d1]
   have:i=l.length:=by omega
   subst this
   rw [List.take_length] at y7 st P7
   obtain ⟨RE,e1,e2⟩:=endSl nx x l.sum
   have s1:=step P7 e1
   rw [N7.d] at s1
   by_cases c2:x≤l.sum
   ·rw [if_pos c2] at st s1
    have d2:decide (x≤l.sum)=true:=decide_eq_true c2
    rw [d2] at e2
    refine AM.callI_of st ?_
    rintro r h8 ⟨rfl,rfl⟩
    simp -implicitDefEqProofs (disch:=first|exact dz _|fail) only [↓AM.R0,AM.R1,AM.R2,qA,qB,qC,qD,qE,↓reduceIte,qG,qH,qI,y0,y1,y5,y7,y42,y43,y44,d2,bq1,bq2,bq3,bq4,Bool.not_true,Bool.not_false]
    refine AM.callI_of s1 ?_
    rintro r h9 ⟨rfl,γ9,P9,N9⟩
    have s2:=endedG P9
    rw [(N7.trans N9).d,e2] at s2
    simp -implicitDefEqProofs (disch:=first|exact dz _|fail) only [↓AM.R0,AM.R1,AM.R2,qA,qB,qC,qD,qE,↓reduceIte,qG,qH,qI,y0,y1,y5,y7,y42,y43,y44,d2,bq1,bq2,bq3,bq4,Bool.not_true,Bool.not_false]
    refine AM.callI_of s2 ?_
    rintro r h10 ⟨rfl,rfl⟩
    simp -implicitDefEqProofs (disch:=first|exact dz _|fail) only [↓AM.R0,AM.R1,AM.R2,qA,qB,qC,qD,qE,↓reduceIte,qG,qH,qI,y0,y1,y5,y7,y42,y43,y44,d2,bq1,bq2,bq3,bq4,Bool.not_true,Bool.not_false]
    subst hQ
    rfl
   ·rw [if_neg c2] at st s1
    have d2:decide (x≤l.sum)=false:=decide_eq_false c2
    rw [d2] at e2
    refine AM.callI_of st ?_
    rintro r h8 ⟨rfl,rfl⟩
    simp -implicitDefEqProofs (disch:=first|exact dz _|fail) only [↓AM.R0,AM.R1,AM.R2,qA,qB,qC,qD,qE,↓reduceIte,qG,qH,qI,y0,y1,y5,y7,y42,y43,y44,d2,bq1,bq2,bq3,bq4,Bool.not_true,Bool.not_false]
    refine AM.callI_of s1 ?_
    rintro r h9 ⟨rfl,γ9,P9,N9⟩
    have s2:=endedG P9
    rw [(N7.trans N9).d,e2] at s2
    simp -implicitDefEqProofs (disch:=first|exact dz _|fail) only [↓AM.R0,AM.R1,AM.R2,qA,qB,qC,qD,qE,↓reduceIte,qG,qH,qI,y0,y1,y5,y7,y42,y43,y44,d2,bq1,bq2,bq3,bq4,Bool.not_true,Bool.not_false]
    refine AM.callI_of s2 ?_
    rintro r h10 ⟨rfl,rfl⟩
    simp -implicitDefEqProofs (disch:=first|exact dz _|fail) only [↓AM.R0,AM.R1,AM.R2,qA,qB,qC,qD,qE,↓reduceIte,qG,qH,qI,y0,y1,y5,y7,y42,y43,y44,d2,bq1,bq2,bq3,bq4,Bool.not_true,Bool.not_false]
    subst hQ
    rfl
end Go.Proofs.Ytnbnpjhlflcjeaa.Id