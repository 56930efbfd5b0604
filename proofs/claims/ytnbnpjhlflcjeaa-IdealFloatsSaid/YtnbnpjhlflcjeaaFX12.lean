/-
 What the functions of this seat do,on the machine: lemmas for the laws.
-/
import Derived.Test.YtnbnpjhlflcjeaaFX6
import Derived.Test.YtnbnpjhlflcjeaaFX11
set_option linter.unusedSimpArgs false
set_option linter.unusedVariables false
set_option maxRecDepth 100000
attribute [local irreducible] Go.AM.wp Go.AM.wpIs Go.AM.wpTr Go.AM.opI Go.AM.gI Go.AM.cI Go.AM.trI Go.AM.callI Go.AM.fnI Go.AM.yldI Go.AM.rangeI Go.AM.rangeC Go.AM.YldP Go.AM.asgQ Go.AM.roundQ Go.AM.rangeQ Go.AM.trG Go.AM.trOp Go.AM.trCall Go.AM.seqC Go.AM.loopI
namespace Go.Proofs.Ytnbnpjhlflcjeaa.Id
open Go Go.AM Go.Proofs.Ytnbnpjhlflcjeaa.AmGF
open Nat renaming reduceAdd → qA,reduceLeDiff → qB,reduceEqDiff → qC,reduceLT → qE
open Int renaming reduceToNat → qD,reduceEq → qG,reduceLT → qH,reduceLE → qI
section
variable {h h' h1:AHeap} {γ:GI} {R:Run}
theorem endedG (P:RunP h γ R):CallP AP 16 [.ptr γ.d 0 0] h fun v h'=>v=.bool R.ended∧h'=h:=by
 refine callP (rfl:Tr.get AP 16=some A16) ?_
 generalize hQ:(fun (r:AVal) (h':AHeap)=>_)=Q
 have ho:=P.obj
 have hlt:=P.ltd
 simp -implicitDefEqProofs (disch:=first|exact dz _|fail) only [↓qJ,qK,qL,qA,qB,qC,qD,qE,↓reduceIte,qG,qH,qI,ho]
 subst hQ
 exact ⟨rfl,rfl⟩
theorem gsG (P:RunP h γ R):CallP AP 46 [.ptr γ.d 0 0] h fun v h'=>v=.int .i64 (R.gs.length:Nat)∧h'=h:=by
 refine callP (rfl:Tr.get AP 46=some A46) ?_
 generalize hQ:(fun (r:AVal) (h':AHeap)=>_)=Q
 have ho:=P.obj
 have hlt:=P.ltd
 have hgl:=P.gs.len
 have eg:(γ.gs.map (·.1)).length=R.gs.length:=by rw [List.length_map];exact P.gsAll.1
 rw [eg] at hgl
 simp -implicitDefEqProofs (disch:=first|exact dz _|fail) only [↓qJ,qK,qL,qA,qB,qC,qD,qE,↓reduceIte,qG,qH,qI,ho,hgl]
 subst hQ
 exact ⟨rfl,rfl⟩
def Run.stateOf (d:Run) (g:Int):Int:=match at? d.gs g with
 | some r=>r.state
 | none=>0
theorem stateG (P:RunP h γ R) (g:Int):CallP AP 24 [.ptr γ.d 0 0,.int .i64 g] h fun v h'=>v=.int .i64 (R.stateOf g)∧h'=h:=by
 refine callP (rfl:Tr.get AP 24=some A24) ?_
 generalize hQ:(fun (r:AVal) (h':AHeap)=>_)=Q
 have ho:=P.obj
 have hlt:=P.ltd
 have hgl:=P.gs.len
 have eg:(γ.gs.map (·.1)).length=R.gs.length:=by rw [List.length_map];exact P.gsAll.1
 rw [eg] at hgl
 by_cases c1:g<0
 ·have d1:decide (g<0)=true:=decide_eq_true c1
  have hn:at? R.gs g=none:=by unfold at?;rw [if_neg (by omega)]
  simp -implicitDefEqProofs (disch:=first|exact dz _|fail) only [↓qJ,qK,qL,qA,qB,qC,qD,qE,↓reduceIte,qG,qH,qI,d1]
  subst hQ
  exact ⟨by unfold Run.stateOf;rw [hn],rfl⟩
 have d1:decide (g<0)=false:=decide_eq_false c1
 by_cases c2:(R.gs.length:Int)≤g
 ·have d2:decide ((R.gs.length:Int)≤g)=true:=decide_eq_true c2
  have hn:at? R.gs g=none:=by unfold at?;rw [if_pos (by omega)];exact List.getElem?_eq_none (by omega)
  simp -implicitDefEqProofs (disch:=first|exact dz _|fail) only [↓qJ,qK,qL,qA,qB,qC,qD,qE,↓reduceIte,qG,qH,qI,d1,ho,hgl,d2]
  subst hQ
  exact ⟨by unfold Run.stateOf;rw [hn],rfl⟩
 have d2:decide ((R.gs.length:Int)≤g)=false:=decide_eq_false c2
 obtain ⟨r,hr⟩:∃ r,R.gs[g.toNat]?=some r:=⟨_,List.getElem?_eq_getElem (by omega)⟩
 have hra:at? R.gs g=some r:=by unfold at?;rw [if_pos (by omega)];exact hr
 obtain ⟨x,fv,hx,s⟩:=P.rt hr
 have hro:=s.obj
 have hrlt:=s.lt
 have hgx:at? (γ.gs.map (·.1)) g=some x.1:=by unfold at?;rw [if_pos (by omega),List.getElem?_map,hx];rfl
 obtain ⟨id,gn,off,vs,x1,x2,x3,x4⟩:=P.gs.ix (enc:=fun id=>.ptr id 0 0) hgx
 simp -implicitDefEqProofs (disch:=first|exact dz _|fail) only [↓qJ,qK,qL,qA,qB,qC,qD,qE,↓reduceIte,qG,qH,qI,d1,ho,hgl,d2,x1,x2,x4,hro]
 subst hQ
 exact ⟨by unfold Run.stateOf;rw [hra],rfl⟩
theorem traceG (P:RunP h γ R) (hb:R.trace.length<1000000):CallP AP 18 [.ptr γ.d 0 0] h fun v h'=>∃ F,SlOf h' 3 encE v R.trace F∧HFrame h h' [] F:=by
 refine callP (rfl:Tr.get AP 18=some A18) ?_
 generalize hQ:(fun (r:AVal) (h':AHeap)=>_)=Q
 have ho:=P.obj
 have hlt:=P.ltd
 simp -implicitDefEqProofs (disch:=first|exact dz _|fail) only [↓qJ,qK,qL,qA,qB,qC,qD,qE,↓reduceIte,qG,qH,qI,ho]
 refine opI_of (app_nil (.inl P.trace.rd) (fun _=>rfl) (fun _ _=>rfl) (by omega) fun v' h' F' s' f'=>?_)
 simp -implicitDefEqProofs (disch:=first|exact dz _|fail) only [↓qJ,qK,qL,qA,qB,qC,qD,qE,↓reduceIte,qG,qH,qI]
 subst hQ
 exact ⟨F',s',f'⟩
set_option maxHeartbeats 2000000 in
theorem sameTrace {v w:AVal} {l m:List (Int×Int×Int)} (A:SlRd h 3 encE v l) (B:SlRd h 3 encE w m) (hb:l.length<1000000):CallP AP 19 [v,w] h fun r h'=>r=.bool (decide (l=m))∧h'=h:=by
 refine callP (rfl:Tr.get AP 19=some A19) ?_
 generalize hQ:(fun (r:AVal) (h':AHeap)=>_)=Q
 have la:=A.len
 have lb:=B.len
 by_cases c1:(l.length:Int)=m.length
 ·have d1:decide ((l.length:Int)=m.length)=true:=decide_eq_true c1
  simp -implicitDefEqProofs (disch:=first|exact dz _|fail) only [↓qJ,qK,qL,qA,qB,qC,qD,qE,↓reduceIte,qG,qH,qI,la,lb,d1]
  refine loopI_of (fun k e h5=>∃ z:Nat,k+z=l.length∧h5=h∧e.val 0=v∧e.val 1=w∧e.val 5=.int .i64 (z:Int)∧l.take z=m.take z) l.length ?_ ?_
  ·refine ⟨0,by omega,rfl,?_,?_,?_,by simp⟩<;>(simp -implicitDefEqProofs (disch:=first|exact dz _|fail) only [↓qJ,qK,qL,qA,qB,qC,qD,qE,↓reduceIte,qG,qH,qI])<;>rfl
  ·rintro k e h5 ⟨z,hk,rfl,y0,y1,y5,ht⟩
   simp -implicitDefEqProofs (disch:=first|exact dz _|fail) only [↓qJ,qK,qL,qA,qB,qC,qD,qE,↓reduceIte,qG,qH,qI,y0,y1,y5,la]
   refine cI_bool (fun hc=>?_) (fun hc=>?_)
   ·simp only [decide_eq_true_eq] at hc
    obtain ⟨x,hx⟩:∃ x,l[z]?=some x:=⟨_,List.getElem?_eq_getElem (by omega)⟩
    obtain ⟨y,hy⟩:∃ y,m[z]?=some y:=⟨_,List.getElem?_eq_getElem (by omega)⟩
    obtain ⟨id1,g1,o1,vs1,ro1,a1,a2,a3,a4,a5⟩:=SlRd.ixA A (fun _=>rfl) (at?_of hx)
    obtain ⟨id2,g2,o2,vs2,ro2,b1,b2,b3,b4,b5⟩:=SlRd.ixA B (fun _=>rfl) (at?_of hy)
    have a4':o1+3≤vs1.length:=a4
    have b4':o2+3≤vs2.length:=b4
    have wz:IntKind.i64.wrap ((z:Int)+1)=((z+1:Nat):Int):=(wrap64 (by omega) (by omega)).trans (by omega)
    simp -implicitDefEqProofs (disch:=first|exact dz _|fail) only [↓qJ,qK,qL,qA,qB,qC,qD,qE,↓reduceIte,qG,qH,qI,y0,y1,y5,a1,a2,a4,a5,b1,b2,b4,b5]
    refine cI_bool (fun hd=>?_) (fun hd=>?_)
    ·simp -implicitDefEqProofs (disch:=first|exact dz _|fail) only [↓qJ,qK,qL,qA,qB,qC,qD,qE,↓reduceIte,qG,qH,qI]
     subst hQ
     refine ⟨?_,rfl⟩
     have:¬ x=y:=fun e=>by subst e;simp at hd
     congr 1
     symm
     rw [decide_eq_false_iff_not]
     rintro rfl
     rw [hx] at hy;cases hy
     exact this rfl
    ·have hxy:x=y:=by
      obtain ⟨x1,x2,x3⟩:=x
      obtain ⟨y1',y2,y3⟩:=y
      simp at hd
      simp [hd]
     subst hxy
     simp -implicitDefEqProofs (disch:=first|exact dz _|fail) only [↓qJ,qK,qL,qA,qB,qC,qD,qE,↓reduceIte,qG,qH,qI,y0,y1,y5,wz]
     exact ⟨k-1,by omega,z+1,by omega,rfl,by rw [take_succ_of hx,take_succ_of hy,ht]⟩
   ·simp only [decide_eq_false_iff_not] at hc
    rw [List.take_of_length_le (by omega),List.take_of_length_le (by omega)] at ht
    simp -implicitDefEqProofs (disch:=first|exact dz _|fail) only [↓qJ,qK,qL,qA,qB,qC,qD,qE,↓reduceIte,qG,qH,qI]
    subst hQ
    exact ⟨by rw [ht];simp,rfl⟩
 ·have d1:decide ((l.length:Int)=m.length)=false:=decide_eq_false c1
  simp -implicitDefEqProofs (disch:=first|exact dz _|fail) only [↓qJ,qK,qL,qA,qB,qC,qD,qE,↓reduceIte,qG,qH,qI,la,lb,d1]
  subst hQ
  refine ⟨?_,rfl⟩
  congr 1
  symm
  rw [decide_eq_false_iff_not]
  rintro rfl
  exact c1 rfl
def firstReady:List Routine→Nat→Option Nat
 | [],_=>none
 | r::l,n=>if r.state=1 then some n else firstReady l (n+1)
theorem firstReady_drop {l:List Routine} {z:Nat} {r:Routine} (h:l[z]?=some r):firstReady (l.drop z) z=if r.state=1 then some z else firstReady (l.drop (z+1)) (z+1):=by
 have hi:=List.getElem?_eq_some_iff.1 h
 have e:l.drop z=r::l.drop (z+1):=by rw [List.drop_eq_getElem_cons hi.1,hi.2]
 rw [e];rfl
def shownN:Nat→Int→Run→Option Run
 | 0,_,d=>some d
 | n+1,i,d=>(lim d.gs 1000000).bind fun _=>if d.ended then some d else match firstReady d.gs 0 with
  | none=>shownN n (i+1) d
  | some k=>(d.step k (u64 i)).bind fun x=>shownN n (i+1) x.2
set_option maxHeartbeats 4000000 in
theorem shown {p:PProg} {row:List AVal} (RR:ProgR h p row) (ok:p.Ok) (hl:limP p=true) (hc:(V.checkF p).1=0) {R0 R1:Run} (hn:Run.new p=some R0) {steps:Nat} (hs:steps<1000000) (hp:shownN steps 0 R0=some R1) (hb:R1.trace.length<1000000) :
  CallP AP 22 [.agg row,.int .i64 (steps:Nat)] h fun v h'=>∃ F,SlOf h' 3 encE v R1.trace F∧HFrame h h' [] F:=by
 have rc:=ProgR.cellv RR
 have RR0:=RR
 obtain ⟨tv,gv,fv,rfl,RT,RG,RF⟩:=RR
 refine callP (rfl:Tr.get AP 22=some A22) ?_
 generalize hQ:(fun (r:AVal) (h':AHeap)=>_)=Q
 have c1:=SlR.cellv RT
 have c2:=SlIn.cellv RG
 have c3:=SlR.cellv RF
 have f0:=(HFrame.refl (h:=h) (F:=[]) (by simp)).pushTmp (.cells 0 false [tv,gv,fv])
 have g0:(h.push (.cells 0 false [tv,gv,fv])).get h.n=.cells 0 false [tv,gv,fv]:=AHeap.get_push_same _ _
 have n0:(h.push (.cells 0 false [tv,gv,fv])).n=h.n+1:=rfl
 simp -implicitDefEqProofs (disch:=first|exact dz _|fail) only [↓qJ,qK,qL,qA,qB,qC,qD,qE,↓reduceIte,qG,qH,qI,c1,c2,c3]
 generalize h.push (.cells 0 false [tv,gv,fv])=h1 at *
 refine callI_of (newOk (RR0.keep f0) ok hl hc hn) ?_
 rintro r h2 ⟨γ,rfl,P2,f2,hK⟩
 have n2:=f2.n
 have F3:=((f0.trans f2).pushTmp (.cells 0 false [.int .i64 0,.int .i64 0,.int .i64 0])).setTmp (i:=h2.n) (by omega) (.cells 0 false [.int .i64 0,.int .i64 0,.int .i64 0])
 have P3:=P2.tmp (Chg.tmp h2 γ.K (.cells 0 false [.int .i64 0,.int .i64 0,.int .i64 0]) (.cells 0 false [.int .i64 0,.int .i64 0,.int .i64 0]))
 simp -implicitDefEqProofs (disch:=first|exact dz _|fail) only [↓qJ,qK,qL,qA,qB,qC,qD,qE,↓reduceIte,qG,qH,qI]
 generalize ((h2.push (.cells 0 false [.int .i64 0,.int .i64 0,.int .i64 0])).set h2.n (.cells 0 false [.int .i64 0,.int .i64 0,.int .i64 0]))=h3 at *
 refine loopI_of (fun c e h5=>∃ (i:Nat) (γ5:GI) (R5:Run),c+i=steps∧e.val 1=.int .i64 (steps:Int)∧e.val 5=.ptr γ.d 0 0∧e.val 7=.int .i64 (i:Int)∧RunP h5 γ5 R5∧Nxt h3 h5 γ γ5∧shownN c (i:Int) R5=some R1) steps ?_ ?_
 ·refine ⟨0,γ,R0,by omega,?_,?_,?_,P3,Nxt.refl _ _,hp⟩<;>(simp -implicitDefEqProofs (disch:=first|exact dz _|fail) only [↓qJ,qK,qL,qA,qB,qC,qD,qE,↓reduceIte,qG,qH,qI])<;>rfl
 ·rintro c e h5 ⟨i,γ5,R5,hci,y1,y5,y7,P5,N5,hsh⟩
  have fin:∀ R6:Run,R6=R1→RunP h5 γ5 R6→CallP AP 18 [.ptr γ.d 0 0] h5 fun v h'=>∃ F,SlOf h' 3 encE v R1.trace F∧HFrame h h' [] F:=fun R6 e6 P6=>by
   subst e6
   have:=traceG P6 hb
   rw [N5.d] at this
   refine this.mono ?_
   rintro v h' ⟨F,s,f⟩
   have nn:=N5.c.n
   have n3:=F3.n
   exact ⟨F,s,by have:=f.n;omega,by rw [f.g,N5.c.g,F3.g],fun j hj _=>by rw [f.get j (by omega) (by simp),N5.c.get j (by omega) (fun q=>q (hK j (by omega))),F3.get j hj (by simp)],fun j hj=>.inr (by
    rcases f.new j hj with q | q
    ·simp at q
    ·omega),f.lt⟩
  by_cases c1:(i:Int)<steps
  ·have d1:decide ((i:Int)<steps)=true:=decide_eq_true c1
   obtain ⟨c,rfl⟩:∃ c',c=c'+1:=⟨c-1,by omega⟩
   simp only [shownN,Option.bind_eq_some_iff] at hsh
   obtain ⟨_,hgl,hsh⟩:=hsh
   have hgl:=lim_lt hgl
   have hend:=endedG P5
   rw [N5.d] at hend
   simp -implicitDefEqProofs (disch:=first|exact dz _|fail) only [↓qJ,qK,qL,qA,qB,qC,qD,qE,↓reduceIte,qG,qH,qI,y1,y5,y7,d1]
   refine callI_of hend ?_
   rintro v h6 ⟨rfl,rfl⟩
   cases c2:R5.ended with
   | true =>
    rw [if_pos c2] at hsh
    simp only [Option.some.injEq] at hsh
    simp -implicitDefEqProofs (disch:=first|exact dz _|fail) only [↓qJ,qK,qL,qA,qB,qC,qD,qE,↓reduceIte,qG,qH,qI,y1,y5,y7]
    refine callI_of (fin _ hsh P5) ?_
    rintro v h' ⟨F,s,f⟩
    simp -implicitDefEqProofs (disch:=first|exact dz _|fail) only [↓qJ,qK,qL,qA,qB,qC,qD,qE,↓reduceIte,qG,qH,qI]
    subst hQ
    exact ⟨F,s,f⟩
   | false =>
    rw [if_neg (by rw [c2];simp)] at hsh
    have hgs:=gsG P5
    rw [N5.d] at hgs
    have wi:IntKind.i64.wrap ((i:Int)+1)=((i+1:Nat):Int):=(wrap64 (by omega) (by omega)).trans (by omega)
    simp -implicitDefEqProofs (disch:=first|exact dz _|fail) only [↓qJ,qK,qL,qA,qB,qC,qD,qE,↓reduceIte,qG,qH,qI,y1,y5,y7]
    refine callI_of hgs ?_
    rintro v h7 ⟨rfl,rfl⟩
    simp -implicitDefEqProofs (disch:=first|exact dz _|fail) only [↓qJ,qK,qL,qA,qB,qC,qD,qE,↓reduceIte,qG,qH,qI,y1,y5,y7]
    refine loopI_of (fun cz e h8=>∃ z:Nat,cz+z=R5.gs.length∧h8=h7∧e.val 1=.int .i64 (steps:Int)∧e.val 5=.ptr γ.d 0 0∧e.val 7=.int .i64 (i:Int)∧e.val 32=.int .i64 (R5.gs.length:Int)∧e.val 33=.int .i64 (z:Int)∧firstReady R5.gs 0=firstReady (R5.gs.drop z) z) R5.gs.length ?_ ?_
    ·refine ⟨0,by omega,rfl,?_,?_,?_,?_,?_,rfl⟩<;>(simp -implicitDefEqProofs (disch:=first|exact dz _|fail) only [↓qJ,qK,qL,qA,qB,qC,qD,qE,↓reduceIte,qG,qH,qI,y1,y5,y7])<;>rfl
    ·rintro cz e h8 ⟨z,hcz,rfl,y1,y5,y7,y32,y33,hfr⟩
     simp -implicitDefEqProofs (disch:=first|exact dz _|fail) only [↓qJ,qK,qL,qA,qB,qC,qD,qE,↓reduceIte,qG,qH,qI,y32,y33]
     refine cI_bool (fun hc=>?_) (fun hc=>?_)
     ·simp only [decide_eq_true_eq] at hc
      obtain ⟨r,hr⟩:∃ r,R5.gs[z]?=some r:=⟨_,List.getElem?_eq_getElem (by omega)⟩
      have hst:R5.stateOf (z:Int)=r.state:=by unfold Run.stateOf;rw [at?_of hr]
      have wz:IntKind.i64.wrap ((z:Int)+1)=((z+1:Nat):Int):=(wrap64 (by omega) (by omega)).trans (by omega)
      rw [firstReady_drop hr] at hfr
      have hsg:=stateG P5 (z:Int)
      rw [N5.d,hst] at hsg
      simp -implicitDefEqProofs (disch:=first|exact dz _|fail) only [↓qJ,qK,qL,qA,qB,qC,qD,qE,↓reduceIte,qG,qH,qI,y1,y5,y7,y32,y33]
      refine callI_of hsg ?_
      rintro v h9 ⟨rfl,rfl⟩
      by_cases c3:r.state=1
      ·rw [if_pos c3] at hfr
       rw [hfr] at hsh
       simp only [Option.bind_eq_some_iff] at hsh
       obtain ⟨⟨er,R6⟩,hst6,hsh⟩:=hsh
       have d3:decide (r.state=1)=true:=decide_eq_true c3
       have hstep:=step P5 hst6
       rw [N5.d] at hstep
       unfold u64 at hstep
       simp -implicitDefEqProofs (disch:=first|exact dz _|fail) only [↓qJ,qK,qL,qA,qB,qC,qD,qE,↓reduceIte,qG,qH,qI,y1,y5,y7,y32,y33,d3]
       refine callI_of hstep ?_
       rintro v h10 ⟨rfl,γ6,P6,N6⟩
       simp -implicitDefEqProofs (disch:=first|exact dz _|fail) only [↓qJ,qK,qL,qA,qB,qC,qD,qE,↓reduceIte,qG,qH,qI,y1,y5,y7,wi]
       exact ⟨c,by omega,i+1,γ6,R6,by omega,rfl,P6,N5.trans N6,by simpa using hsh⟩
      ·rw [if_neg c3] at hfr
       have d3:decide (r.state=1)=false:=decide_eq_false c3
       simp -implicitDefEqProofs (disch:=first|exact dz _|fail) only [↓qJ,qK,qL,qA,qB,qC,qD,qE,↓reduceIte,qG,qH,qI,y1,y5,y7,y32,y33,d3,wz]
       exact ⟨cz-1,by omega,z+1,by omega,rfl,hfr⟩
     ·simp only [decide_eq_false_iff_not] at hc
      rw [List.drop_of_length_le (by omega)] at hfr
      rw [hfr] at hsh
      simp only [firstReady] at hsh
      simp -implicitDefEqProofs (disch:=first|exact dz _|fail) only [↓qJ,qK,qL,qA,qB,qC,qD,qE,↓reduceIte,qG,qH,qI,y1,y5,y7,wi]
      exact ⟨c,by omega,i+1,γ5,R5,by omega,rfl,P5,N5,by simpa using hsh⟩
  ·have d1:decide ((i:Int)<steps)=false:=decide_eq_false c1
   obtain rfl:c=0:=by omega
   simp only [shownN,Option.some.injEq] at hsh
   simp -implicitDefEqProofs (disch:=first|exact dz _|fail) only [↓qJ,qK,qL,qA,qB,qC,qD,qE,↓reduceIte,qG,qH,qI,y1,y5,y7,d1]
   refine callI_of (fin _ hsh P5) ?_
   rintro v h' ⟨F,s,f⟩
   simp -implicitDefEqProofs (disch:=first|exact dz _|fail) only [↓qJ,qK,qL,qA,qB,qC,qD,qE,↓reduceIte,qG,qH,qI]
   subst hQ
   exact ⟨F,s,f⟩
end
end Go.Proofs.Ytnbnpjhlflcjeaa.Id
namespace Go.Proofs.Ytnbnpjhlflcjeaa.Id
open Go Go.AM Go.Proofs.Ytnbnpjhlflcjeaa.AmGF
open Nat renaming reduceAdd → qA,reduceLeDiff → qB,reduceEqDiff → qC,reduceLT → qE
open Int renaming reduceToNat → qD,reduceEq → qG,reduceLT → qH,reduceLE → qI
def All2R {α:Type} (R:α→List AVal→Prop):List α→List (List AVal)→Prop
 | [],[]=>True
 | a::l,r::rs=>R a r∧All2R R l rs
 | _,_=>False
theorem All2R.at {α:Type} {R:α→List AVal→Prop}:∀ {l:List α} {rs:List (List AVal)},All2R R l rs→l.length=rs.length∧∀ (i:Nat) (a:α) (row:List AVal),l[i]?=some a→rs[i]?=some row→R a row
 | [],[],_=>⟨rfl,fun i a row h=>by simp at h⟩
 | a::l,r::rs,h=>by
  obtain ⟨h1,h2⟩:=h
  obtain ⟨e,q⟩:=All2R.at h2
  refine ⟨by simp [e],fun i b row hb hr=>?_⟩
  cases i with
  | zero=>simp at hb hr;subst hb hr;exact h1
  | succ i=>simp at hb hr;exact q i b row hb hr
 | [],_::_,h=>h.elim
 | _::_,[],h=>h.elim
theorem SlR.lit {α:Type} {h:AHeap} {m id:Nat} {ro:Bool} {R:α→List AVal→Prop} {l:List α} {rows:List (List AVal)} {vs:List AVal} (hg:h.get id=.cells 0 ro vs) (hv:vs=rows.flatten) (lt:id<h.n) (hr:∀ row,row∈rows→row.length=m) (q:All2R R l rows):SlR h m R (.sl id 0 0 l.length m) l:=by
 subst hv
 obtain ⟨e,q'⟩:=q.at
 have hf:rows.flatten.length=rows.length*m:=by
  clear hg q q' e
  induction rows with
  | nil=>simp
  | cons r rs ih=>simp only [List.flatten_cons,List.length_append,List.length_cons];rw [ih fun row hm=>hr row (List.mem_cons_of_mem _ hm),hr r List.mem_cons_self,Nat.add_mul];omega
 exact .inr (.inr ⟨id,0,0,rows.flatten,ro,rows,rfl,hg,lt,by rw [hf,e];omega,by rw [List.drop_zero,List.take_of_length_le (by rw [hf,e];exact Nat.le_refl _)],e.symm,hr,q'⟩)
theorem SlIn.lit {h:AHeap} {id:Nat} {ro:Bool} {l:List Int} {vs:List AVal} (hg:h.get id=.cells 0 ro vs) (hv:vs=l.map fun n=>.int .i64 n) (lt:id<h.n):SlIn h 1 encK (.sl id 0 0 l.length 1) l:=by
 subst hv
 have fl:∀ l:List Int,l.flatMap encK=l.map fun n=>.int .i64 n:=fun l=>by induction l<;>simp_all
 exact .inl (.inr ⟨id,0,0,_,ro,rfl,hg,lt,by simp,by rw [fl,List.drop_zero,List.take_of_length_le (by simp)]⟩)
theorem SlIn.nilI {h:AHeap}:SlIn h 1 encK .nils ([]:List Int):=.inl (.inl ⟨rfl,rfl⟩)
def okI (i:PIns):Bool:=decide (i.op≤mx)&&decide (i.a≤mx)&&decide (i.b≤mx)&&decide (i.c≤mx)&&decide (i.imm≤18446744073709551615)&&i.list.all fun x=>decide (x≤mx)
def okF (f:PFunc):Bool:=decide (f.params≤mx)&&f.slots.all (fun x=>decide (x≤mx))&&f.results.all (fun x=>decide (x≤mx))&&f.code.all okI
def okP (p:PProg):Bool:=p.types.all (fun t=>t.2.all fun x=>decide (x≤mx))&&p.globals.all (fun x=>decide (x≤mx))&&p.funcs.all okF
theorem okP_ok {p:PProg} (h:okP p=true):p.Ok:=by
 simp only [okP,okF,okI,Bool.and_eq_true,List.all_eq_true,decide_eq_true_eq] at h
 obtain ⟨⟨h1,h2⟩,h3⟩:=h
 refine ⟨h1,h2,fun f hf=>?_⟩
 obtain ⟨⟨⟨a,b⟩,c⟩,d⟩:=h3 f hf
 refine ⟨a,b,c,fun i hi=>?_⟩
 obtain ⟨⟨⟨⟨⟨q1,q2⟩,q3⟩,q4⟩,q5⟩,q6⟩:=d i hi
 exact ⟨q1,q2,q3,q4,q5,q6⟩
def goodP (p:PProg):Bool:=okP p&&limP p&&decide ((V.checkF p).1=0)
theorem goodP_get {p:PProg} (h:goodP p=true):p.Ok∧limP p=true∧(V.checkF p).1=0:=by
 simp only [goodP,Bool.and_eq_true,decide_eq_true_eq] at h
 exact ⟨okP_ok h.1.1,h.1.2,h.2⟩
def showF (p:PProg) (steps:Nat):Option (List (Int×Int×Int)):=(Run.new p).bind fun R0=>(shownN steps 0 R0).bind fun R1=>if R1.trace.length<1000000 then some R1.trace else none
section
variable {h h' h1:AHeap} {γ:GI} {R:Run}
theorem shownS {p:PProg} {row:List AVal} (RR:ProgR h p row) (g:goodP p=true) {steps:Nat} (hs:steps<1000000) {t:List (Int×Int×Int)} (hp:showF p steps=some t) :
  CallP AP 22 [.agg row,.int .i64 (steps:Nat)] h fun v h'=>∃ F,SlOf h' 3 encE v t F∧HFrame h h' [] F:=by
 obtain ⟨g1,g2,g3⟩:=goodP_get g
 simp only [showF,Option.bind_eq_some_iff] at hp
 obtain ⟨R0,hn,R1,hsh,hp⟩:=hp
 split at hp
 ·rename_i hb
  cases hp
  exact shown RR g1 g2 g3 hn hs hsh hb
 ·cases hp
def pAwake:PProg:=⟨[],[],[⟨0,[0],[],[⟨1,0,0,0,7,[]⟩,⟨48,0,0,0,0,[]⟩,⟨36,0,0,0,0,[]⟩]⟩]⟩
end
end Go.Proofs.Ytnbnpjhlflcjeaa.Id
namespace Go.Proofs.Ytnbnpjhlflcjeaa.Id
open Go Go.AM Go.Proofs.Ytnbnpjhlflcjeaa.AmGF
open Nat renaming reduceAdd → qA,reduceLeDiff → qB,reduceEqDiff → qC,reduceLT → qE
open Int renaming reduceToNat → qD,reduceEq → qG,reduceLT → qH,reduceLE → qI
def cellsOf (o:AObj):Option (List AVal):=match o with
 | .cells 0 _ vs=>some vs
 | _=>none
def rdS (h:AHeap) (m:Nat) (v:AVal):Option (List AVal):=match v with
 | .nils=>some []
 | .sl id 0 0 n c=>if c=m∧id<h.n then (cellsOf (h.get id)).bind fun vs=>if vs.length=n*m then some vs else none else none
 | _=>none
def intsV:List AVal→Option (List Int)
 | []=>some []
 | .int .i64 x::l=>(intsV l).bind fun m=>some (x::m)
 | _=>none
def rdI (h:AHeap) (v:AVal):Option (List Int):=(rdS h 1 v).bind intsV
def inssV (h:AHeap):List AVal→Option (List PIns)
 | []=>some []
 | .int .i64 a::.int .i64 b::.int .i64 c::.int .i64 d::.int .u64 n::v::l=>if 0≤n∧n≤18446744073709551615 then (rdI h v).bind fun li=>(inssV h l).bind fun m=>some (⟨a,b,c,d,n.toNat,li⟩::m) else none
 | _=>none
def typsV (h:AHeap):List AVal→Option (List (Bool×List Int))
 | []=>some []
 | .bool b::v::l=>(rdI h v).bind fun li=>(typsV h l).bind fun m=>some ((b,li)::m)
 | _=>none
def funsV (h:AHeap):List AVal→Option (List PFunc)
 | []=>some []
 | .int .i64 a::sv::rv::cv::l=>(rdI h sv).bind fun s=>(rdI h rv).bind fun r=>((rdS h 6 cv).bind (inssV h)).bind fun c=>(funsV h l).bind fun m=>some (⟨a,s,r,c⟩::m)
 | _=>none
def rdP (h:AHeap):List AVal→Option PProg
 | [tv,gv,fv]=>((rdS h 2 tv).bind (typsV h)).bind fun t=>(rdI h gv).bind fun g=>((rdS h 4 fv).bind (funsV h)).bind fun f=>some ⟨t,g,f⟩
 | _=>none
theorem rdS_nil (h:AHeap) (m:Nat):rdS h m .nils=some []:=rfl
theorem rdS_sl {h:AHeap} {m id n:Nat} {ro:Bool} {vs:List AVal} (g:h.get id=.cells 0 ro vs) (lt:id<h.n) (e:vs.length=n*m):rdS h m (.sl id 0 0 n m)=some vs:=by
 simp only [rdS,g,cellsOf,Option.bind,e,lt,and_self,if_true]
section
variable {h:AHeap}
theorem rdS_cases {m:Nat} {v:AVal} {vs:List AVal} (e:rdS h m v=some vs):(v=.nils∧vs=[])∨∃ id n ro,v=.sl id 0 0 n m∧h.get id=.cells 0 ro vs∧id<h.n∧vs.length=n*m:=by
 simp only [rdS] at e
 split at e
 ·cases e;exact .inl ⟨rfl,rfl⟩
 ·rename_i id n c
  split at e
  ·rename_i q
   obtain ⟨rfl,lt⟩:=q
   simp only [Option.bind_eq_some_iff] at e
   obtain ⟨ws,e1,e2⟩:=e
   split at e2
   ·rename_i hl
    cases e2
    simp only [cellsOf] at e1
    split at e1
    ·rename_i o ro us g
     cases e1
     exact .inr ⟨id,n,ro,rfl,g,lt,hl⟩
    ·cases e1
   ·cases e2
  ·cases e
 ·cases e
theorem slR_of {α:Type} {m:Nat} (hm:0<m) {R:α→List AVal→Prop} {v:AVal} {vs:List AVal} {l:List α} {rows:List (List AVal)} (e:rdS h m v=some vs) (hv:vs=rows.flatten) (hr:∀ row,row∈rows→row.length=m) (q:All2R R l rows):SlR h m R v l:=by
 have hf:∀ rows:List (List AVal),(∀ row,row∈rows→row.length=m)→rows.flatten.length=rows.length*m:=by
  intro rows hr
  induction rows with
  | nil=>simp
  | cons r rs ih=>simp only [List.flatten_cons,List.length_append,List.length_cons];rw [ih fun row hm=>hr row (List.mem_cons_of_mem _ hm),hr r List.mem_cons_self,Nat.add_mul];omega
 have e':=q.at.1
 rcases rdS_cases e with ⟨rfl,hz⟩ | ⟨id,n,ro,rfl,g,lt,hl⟩
 ·have hz':rows.length=0:=by
   have:=hf rows hr
   rw [←hv,hz] at this
   simp only [List.length_nil] at this
   exact (Nat.mul_eq_zero.1 this.symm).resolve_right (by omega)
  have:l=[]:=List.eq_nil_of_length_eq_zero (by omega)
  exact .inl ⟨rfl,this⟩
 ·have hn:n=l.length:=by
   have:=hf rows hr
   rw [←hv,hl] at this
   rw [e'];exact Nat.eq_of_mul_eq_mul_right hm this
  subst hn
  exact SlR.lit g hv lt hr q
theorem rdI_ok {v:AVal} {l:List Int} (e:rdI h v=some l):SlIn h 1 encK v l:=by
 simp only [rdI,Option.bind_eq_some_iff] at e
 obtain ⟨vs,e1,e2⟩:=e
 have hv:vs=l.map fun n=>.int .i64 n:=by
  clear e1
  induction vs generalizing l with
  | nil=>cases e2;rfl
  | cons a vs ih =>
   unfold intsV at e2
   split at e2
   ·rename_i q;cases q
   ·rename_i x t q
    cases q
    simp only [Option.bind_eq_some_iff] at e2
    obtain ⟨m,e3,e4⟩:=e2
    cases e4
    rw [ih e3];rfl
   ·cases e2
 rcases rdS_cases e1 with ⟨rfl,hz⟩ | ⟨id,n,ro,rfl,g,lt,hl⟩
 ·have:l=[]:=by cases l with | nil=>rfl | cons a l=>rw [hz] at hv;cases hv
  subst this;exact SlIn.nilI
 ·have hn:n=l.length:=by rw [hv] at hl;simpa using hl.symm
  subst hn
  exact SlIn.lit g hv lt
theorem inssV_ok:∀ {vs:List AVal} {l:List PIns},inssV h vs=some l→∃ rows,vs=rows.flatten∧(∀ row,row∈rows→row.length=6)∧All2R (InsR h) l rows
 | vs,l,e=>by
  unfold inssV at e
  split at e
  ·cases e;exact ⟨[],rfl,by simp,trivial⟩
  ·rename_i a b c d n v t
   split at e
   ·rename_i hn
    simp only [Option.bind_eq_some_iff] at e
    obtain ⟨li,e1,m,e2,e3⟩:=e
    cases e3
    obtain ⟨rows,h1,h2,h3⟩:=inssV_ok e2
    refine ⟨[.int .i64 a,.int .i64 b,.int .i64 c,.int .i64 d,.int .u64 n,v]::rows,by rw [h1];rfl,fun row hm=>?_,⟨?_,h3⟩⟩
    ·rcases List.mem_cons.1 hm with rfl | hm
     ·rfl
     ·exact h2 _ hm
    ·refine ⟨by show n.toNat≤_;omega,v,?_,rdI_ok e1⟩
     show _=[AVal.int .i64 a,.int .i64 b,.int .i64 c,.int .i64 d,.int .u64 (n.toNat:Nat),v]
     rw [Int.toNat_of_nonneg hn.1]
   ·cases e
  ·cases e
 termination_by vs=>vs.length
theorem typsV_ok:∀ {vs:List AVal} {l:List (Bool×List Int)},typsV h vs=some l→∃ rows,vs=rows.flatten∧(∀ row,row∈rows→row.length=2)∧All2R (TypeR h) l rows
 | vs,l,e=>by
  unfold typsV at e
  split at e
  ·cases e;exact ⟨[],rfl,by simp,trivial⟩
  ·rename_i b v t
   simp only [Option.bind_eq_some_iff] at e
   obtain ⟨li,e1,m,e2,e3⟩:=e
   cases e3
   obtain ⟨rows,h1,h2,h3⟩:=typsV_ok e2
   refine ⟨[.bool b,v]::rows,by rw [h1];rfl,fun row hm=>?_,⟨⟨v,rfl,rdI_ok e1⟩,h3⟩⟩
   rcases List.mem_cons.1 hm with rfl | hm
   ·rfl
   ·exact h2 _ hm
  ·cases e
 termination_by vs=>vs.length
theorem funsV_ok:∀ {vs:List AVal} {l:List PFunc},funsV h vs=some l→∃ rows,vs=rows.flatten∧(∀ row,row∈rows→row.length=4)∧All2R (FuncR h) l rows
 | vs,l,e=>by
  unfold funsV at e
  split at e
  ·cases e;exact ⟨[],rfl,by simp,trivial⟩
  ·rename_i a sv rv cv t
   simp only [Option.bind_eq_some_iff] at e
   obtain ⟨s,e1,r,e2,c,⟨us,e3,e4⟩,m,e5,e6⟩:=e
   cases e6
   obtain ⟨rows,h1,h2,h3⟩:=funsV_ok e5
   obtain ⟨rows',k1,k2,k3⟩:=inssV_ok e4
   refine ⟨[.int .i64 a,sv,rv,cv]::rows,by rw [h1];rfl,fun row hm=>?_,⟨⟨sv,rv,cv,rfl,rdI_ok e1,rdI_ok e2,slR_of (by decide) e3 k1 k2 k3⟩,h3⟩⟩
   rcases List.mem_cons.1 hm with rfl | hm
   ·rfl
   ·exact h2 _ hm
  ·cases e
 termination_by vs=>vs.length
theorem rdC_ok {v:AVal} {l:List PIns} (e:(rdS h 6 v).bind (inssV h)=some l):SlR h 6 (InsR h) v l:=by
 simp only [Option.bind_eq_some_iff] at e
 obtain ⟨us,e3,e4⟩:=e
 obtain ⟨rows',k1,k2,k3⟩:=inssV_ok e4
 exact slR_of (by decide) e3 k1 k2 k3
theorem rdP_ok {row:List AVal} {p:PProg} (e:rdP h row=some p):ProgR h p row:=by
 unfold rdP at e
 split at e
 ·rename_i tv gv fv
  simp only [Option.bind_eq_some_iff] at e
  obtain ⟨t,⟨us,e1,e2⟩,g,e3,f,⟨ws,e4,e5⟩,e6⟩:=e
  cases e6
  obtain ⟨rows,h1,h2,h3⟩:=typsV_ok e2
  obtain ⟨rows',k1,k2,k3⟩:=funsV_ok e5
  exact ⟨tv,gv,fv,rfl,slR_of (by decide) e1 h1 h2 h3,rdI_ok e3,slR_of (by decide) e4 k1 k2 k3⟩
 ·cases e
end
end Go.Proofs.Ytnbnpjhlflcjeaa.Id
namespace Go.Proofs.Ytnbnpjhlflcjeaa.Id
open Go Go.AM Go.Proofs.Ytnbnpjhlflcjeaa.AmGF
open Nat renaming reduceAdd → qA,reduceLeDiff → qB,reduceEqDiff → qC,reduceLT → qE
open Int renaming reduceToNat → qD,reduceEq → qG,reduceLT → qH,reduceLE → qI
theorem pAwake_good:goodP pAwake=true:=by decide +kernel
theorem rAwake_get:∃ R0 R1 R2 R3 R4,Run.new pAwake=some R0∧R0.step 0 0=some (0,R1)∧R1.step 0 0=some (0,R2)∧R2.step 1 0=some (4,R3)∧R3.step 0 0=some (0,R4)∧R4.ended=true∧R4.trace=[(1,0,7),(3,0,0)]:=by
 let f:Option (Run×Int×Run×Int×Run×Int×Run×Int×Run):=(Run.new pAwake).bind fun R0=>(R0.step 0 0).bind fun a=>(a.2.step 0 0).bind fun b=>(b.2.step 1 0).bind fun c=>(c.2.step 0 0).bind fun d=>some (R0,a.1,a.2,b.1,b.2,c.1,c.2,d.1,d.2)
 have hf:(f.map fun x=>(x.2.1,x.2.2.2.1,x.2.2.2.2.2.1,x.2.2.2.2.2.2.2.1,x.2.2.2.2.2.2.2.2.ended,x.2.2.2.2.2.2.2.2.trace))=some (0,0,4,0,true,[(1,0,7),(3,0,0)]):=by rfl
 simp only [Option.map_eq_some_iff,f,Option.bind_eq_some_iff] at hf
 obtain ⟨x,⟨R0,h0,a,h1,b,h2,c,h3,d,h4,h5⟩,h6⟩:=hf
 cases h5
 obtain ⟨a1,a2⟩:=a
 obtain ⟨b1,b2⟩:=b
 obtain ⟨c1,c2⟩:=c
 obtain ⟨d1,d2⟩:=d
 simp only [Prod.mk.injEq] at h6
 obtain ⟨rfl,rfl,rfl,rfl,e1,e2⟩:=h6
 exact ⟨R0,a2,b2,c2,d2,h0,h1,h2,h3,h4,e1,e2⟩
theorem HFrame.nxt {h h1 h2:AHeap} {γ γ':GI} (f:HFrame h h1 [] []) (N:Nxt h1 h2 γ γ') (hK:∀ j,j<h.n→γ.K j=.no):HFrame h h2 [] [] :=
 ⟨by have:=f.n;have:=N.c.n;omega,by rw [N.c.g,f.g],fun j hj _=>by rw [N.c.get j (by have:=f.n;omega) (fun q=>q (hK j hj)),f.get j hj (by simp)],fun j hj=>by simp at hj,fun j hj=>by simp at hj⟩
theorem SlRd.cl {α:Type} {h:AHeap} {m:Nat} {enc:α→List AVal} {v:AVal} {l:List α} (s:SlRd h m enc v l):v.cell=true:=by
 rcases s with ⟨rfl,_⟩ | ⟨id,g,off,vs,ro,rfl,_⟩<;>rfl
theorem SlRd.lit {α:Type} {h:AHeap} {id m:Nat} {ro:Bool} {enc:α→List AVal} {l:List α} {vs:List AVal} (hg:h.get id=.cells 0 ro vs) (hm:∀ a,(enc a).length=m) (hv:vs=l.flatMap enc) (lt:id<h.n):SlRd h m enc (.sl id 0 0 l.length m) l:=by
 subst hv
 have:(l.flatMap enc).length=l.length*m:=by
  clear hg
  induction l with
  | nil=>simp
  | cons a l ih=>simp only [List.flatMap_cons,List.length_append,List.length_cons,ih,hm,Nat.add_mul];omega
 exact .inr ⟨id,0,0,_,ro,rfl,hg,lt,by omega,by rw [List.drop_zero,List.take_of_length_le (by omega)]⟩
theorem SlRd.litE {h:AHeap} {id:Nat} {ro:Bool} {l:List (Int×Int×Int)} {vs:List AVal} (hg:h.get id=.cells 0 ro vs) (hv:vs=l.flatMap encE) (lt:id<h.n):SlRd h 3 encE (.sl id 0 0 l.length 3) l:=SlRd.lit hg (fun _=>rfl) hv lt
theorem hfNon {h h':AHeap} {A B:List Nat} (f:HFrame h h' A B):HFrame h h' A []:=⟨f.n,f.g,f.get,fun j hj=>(nomatch hj),fun j hj=>(nomatch hj)⟩
theorem awake (h:AHeap):CallP AP 15 [] h fun r h'=>r=.bool true∧HFrame h h' [] []:=by
 refine callP (rfl:Tr.get AP 15=some A15) ?_
 generalize hQ:(fun (r:AVal) (h':AHeap)=>_)=Q
 simp -implicitDefEqProofs (disch:=first|exact dz _|fail) only [↓qJ,qK,qL,qA,qB,qC,qD,qE,↓reduceIte,qG,qH,qI,a_buildSlice,List.range,List.range.loop,List.getD_cons_zero,List.getD_cons_succ,Nat.mod_one,Nat.reduceMod,Nat.reduceMul]
 obtain ⟨hA,hhA⟩:∃ hA,hA=(((h.push (.cells 0 false [.int .i64 0])).push (.cells 0 false [.int .i64 1,.int .i64 0,.int .i64 0,.int .i64 0,.int .u64 7,.nils,.int .i64 48,.int .i64 0,.int .i64 0,.int .i64 0,.int .u64 0,.nils,.int .i64 36,.int .i64 0,.int .i64 0,.int .i64 0,.int .u64 0,.nils])).push
  (.cells 0 false [.int .i64 0,.sl h.n 0 0 1 1,.nils,.sl (h.n+1) 0 0 3 6])):=⟨_,rfl⟩
 rw [←hhA]
 have g0:hA.get h.n=.cells 0 false [.int .i64 0]:=by rw [hhA];simp -implicitDefEqProofs (disch:=first|exact dz _|fail) only [↓qJ,qK,qL,qA,qB,qC,qD,qE,↓reduceIte,qG,qH,qI]
 have g1:hA.get (h.n+1)=.cells 0 false [.int .i64 1,.int .i64 0,.int .i64 0,.int .i64 0,.int .u64 7,.nils,.int .i64 48,.int .i64 0,.int .i64 0,.int .i64 0,.int .u64 0,.nils,.int .i64 36,.int .i64 0,.int .i64 0,.int .i64 0,.int .u64 0,.nils]:=by rw [hhA];simp -implicitDefEqProofs (disch:=first|exact dz _|fail) only [↓qJ,qK,qL,qA,qB,qC,qD,qE,↓reduceIte,qG,qH,qI]
 have g2:hA.get (h.n+1+1)=.cells 0 false [.int .i64 0,.sl h.n 0 0 1 1,.nils,.sl (h.n+1) 0 0 3 6]:=by rw [hhA];simp -implicitDefEqProofs (disch:=first|exact dz _|fail) only [↓qJ,qK,qL,qA,qB,qC,qD,qE,↓reduceIte,qG,qH,qI]
 have nA:hA.n=h.n+3:=by rw [hhA];rfl
 have fA:HFrame h hA [] []:=by
  rw [hhA]
  exact ((((HFrame.refl (h:=h) (F:=[]) (by simp)).pushTmp _).pushTmp _).pushTmp _)
 clear hhA
 have RP:ProgR hA pAwake [.nils,.nils,.sl (h.n+1+1) 0 0 1 4]:=rdP_ok (by
  have l0:=rdS_sl (n:=1) (m:=1) g0 (by omega) rfl
  have l1:=rdS_sl (n:=3) (m:=6) g1 (by omega) rfl
  have l2:=rdS_sl (n:=1) (m:=4) g2 (by omega) rfl
  simp only [rdP,rdI,rdS_nil,l0,l1,l2,Option.bind,typsV,intsV,funsV,inssV]
  rfl)
 obtain ⟨q1,q2,q3⟩:=goodP_get pAwake_good
 obtain ⟨R0,R1,R2,R3,R4,k0,k1,k2,k3,k4,k5,k6⟩:=rAwake_get
 refine callI_of (newOk RP q1 q2 q3 k0) ?_
 rintro r h2 ⟨γ,rfl,P2,f2,hK⟩
 have n2:=f2.n
 have F3:=(((fA.trans f2).pushTmp (.cells 0 false [.int .i64 0,.int .i64 0,.int .i64 0])).setTmp (i:=h2.n) (by omega) (.cells 0 false [.int .i64 0,.int .i64 0,.int .i64 0]))
 have P3:=P2.tmp (Chg.tmp h2 γ.K (.cells 0 false [.int .i64 0,.int .i64 0,.int .i64 0]) (.cells 0 false [.int .i64 0,.int .i64 0,.int .i64 0]))
 simp -implicitDefEqProofs (disch:=first|exact dz _|fail) only [↓qJ,qK,qL,qA,qB,qC,qD,qE,↓reduceIte,qG,qH,qI]
 generalize ((h2.push (.cells 0 false [.int .i64 0,.int .i64 0,.int .i64 0])).set h2.n (.cells 0 false [.int .i64 0,.int .i64 0,.int .i64 0]))=h3 at *
 have hK':∀ j,j<h.n→γ.K j=.no:=fun j hj=>hK j (by omega)
 refine callI_of (step P3 k1) ?_
 rintro r h4 ⟨rfl,γ4,P4,N4⟩
 simp -implicitDefEqProofs (disch:=first|exact dz _|fail) only [↓qJ,qK,qL,qA,qB,qC,qD,qE,↓reduceIte,qG,qH,qI]
 have s:=step P4 k2
 rw [N4.d] at s
 refine callI_of s ?_
 rintro r h5 ⟨rfl,γ5,P5,N5⟩
 have N5:=N4.trans N5
 simp -implicitDefEqProofs (disch:=first|exact dz _|fail) only [↓qJ,qK,qL,qA,qB,qC,qD,qE,↓reduceIte,qG,qH,qI]
 have s:=step P5 k3
 rw [N5.d] at s
 refine callI_of s ?_
 rintro r h6 ⟨rfl,γ6,P6,N6⟩
 have N6:=N5.trans N6
 simp -implicitDefEqProofs (disch:=first|exact dz _|fail) only [↓qJ,qK,qL,qA,qB,qC,qD,qE,↓reduceIte,qG,qH,qI]
 have s:=step P6 k4
 rw [N6.d] at s
 refine callI_of s ?_
 rintro r h7 ⟨rfl,γ7,P7,N7⟩
 have N7:=N6.trans N7
 simp -implicitDefEqProofs (disch:=first|exact dz _|fail) only [↓qJ,qK,qL,qA,qB,qC,qD,qE,↓reduceIte,qG,qH,qI]
 have s:=endedG P7
 rw [N7.d,k5] at s
 refine callI_of s ?_
 rintro r h8 ⟨rfl,rfl⟩
 simp -implicitDefEqProofs (disch:=first|exact dz _|fail) only [↓qJ,qK,qL,qA,qB,qC,qD,qE,↓reduceIte,qG,qH,qI]
 have s:=traceG P7 (by rw [k6];decide)
 rw [N7.d,k6] at s
 refine callI_of s ?_
 rintro tv h9 ⟨F9,s9,f9⟩
 have n9:=f9.n
 have F9':=HFrame.nxt F3 N7 hK'
 have c9:=SlRd.cl s9.rd
 simp -implicitDefEqProofs (disch:=first|exact dz _|fail) only [↓qJ,qK,qL,qA,qB,qC,qD,qE,↓reduceIte,qG,qH,qI,c9,a_buildSlice,List.range,List.range.loop,List.getD_cons_zero,List.getD_cons_succ,Nat.mod_one,Nat.reduceMod,Nat.reduceMul]
 obtain ⟨hB,hhB⟩:∃ hB,hB=h9.push (.cells 0 false [.int .i64 1,.int .i64 0,.int .u64 7,.int .i64 3,.int .i64 0,.int .u64 0]):=⟨_,rfl⟩
 rw [←hhB]
 have fB:HFrame h9 hB [] []:=by rw [hhB];exact HFrame.pushTmp (HFrame.refl (by simp)) _
 have gB:hB.get h9.n=.cells 0 false [.int .i64 1,.int .i64 0,.int .u64 7,.int .i64 3,.int .i64 0,.int .u64 0]:=by rw [hhB];exact AHeap.get_push_same _ _
 have nB:hB.n=h9.n+1:=by rw [hhB];rfl
 clear hhB
 have sB:=SlRd.litE (l:=[(1,0,7),(3,0,0)]) gB rfl (by omega)
 refine callI_of (sameTrace (s9.rd.keep fB) sB (by decide)) ?_
 rintro r h10 ⟨rfl,rfl⟩
 simp -implicitDefEqProofs (disch:=first|exact dz _|fail) only [↓qJ,qK,qL,qA,qB,qC,qD,qE,↓reduceIte,qG,qH,qI]
 subst hQ
 exact ⟨rfl,(F9'.trans (hfNon f9)).trans fB⟩
theorem cells1 {v:AVal} (h:v.cell=true):v.cells=[v]:=by cases v<;>simp_all [AVal.cell,AVal.cells]
theorem ltI {a b:Nat} (h:a<b):(a<b)=True:=eq_true h
def pOne (code:List PIns):PProg:=⟨[(false,[0,1]),(true,[0])],[],[⟨0,[0,0,0,0,1,1,1,16,17,64],[],code⟩,⟨1,[0],[],[⟨48,0,0,0,0,[]⟩,⟨36,0,0,0,0,[]⟩]⟩,⟨1,[0,0,0],[],[⟨40,1,2,0,0,[]⟩,⟨48,1,0,0,0,[]⟩,⟨48,2,0,0,0,[]⟩,⟨36,0,0,0,0,[]⟩]⟩]⟩
theorem one {h:AHeap} {cv:AVal} {code:List PIns} (s:SlR h 6 (InsR h) cv code):CallP AP 23 [cv] h fun r h'=>HFrame h h' [] []∧∃ row,r=.agg row∧ProgR h' (pOne code) row:=by
 have cc:=SlR.cellv s
 refine callP (rfl:Tr.get AP 23=some A23) ?_
 generalize hQ:(fun (r:AVal) (h':AHeap)=>_)=Q
 simp -implicitDefEqProofs (disch:=first|exact dz _|fail) only [↓qJ,qK,qL,qA,qB,qC,qD,qE,↓reduceIte,qG,qH,qI,cc,cells1 cc,a_buildSlice,List.range,List.range.loop,List.getD_cons_zero,List.getD_cons_succ,Nat.mod_one,Nat.reduceMod,Nat.reduceMul]
 subst hQ
 refine ⟨by (repeat (first | with_reducible apply HFrame.pushTmp | with_reducible refine HFrame.setTmp ?_ (by omega) _ | with_reducible exact HFrame.refl (by simp))),_,rfl,?_⟩
 generalize hh:(AHeap.set _ h.n _)=hB
 have fB:HFrame h hB [] []:=by rw [←hh];(repeat (first | with_reducible apply HFrame.pushTmp | with_reducible refine HFrame.setTmp ?_ (by omega) _ | with_reducible exact HFrame.refl (by simp)))
 refine ⟨_,_,_,rfl,slR_of (vs := [AVal.bool false,AVal.sl (h.n + 1 + 1 + 1 + 1 + 1 + 1 + 1 + 1) 0 0 2 1,AVal.bool true,AVal.sl (h.n + 1 + 1 + 1 + 1 + 1 + 1 + 1 + 1 + 1) 0 0 1 1]) (rows := [[_,_], [_,_]]) (by decide) ?_ rfl (by simp) ⟨⟨_,rfl,rdI_ok ?_⟩, ⟨_,rfl,rdI_ok ?_⟩, trivial⟩, SlIn.nilI,slR_of (vs := [AVal.int IntKind.i64 0,AVal.sl (h.n + 1) 0 0 10 1,AVal.nils,cv,AVal.int IntKind.i64 1,
       AVal.sl (h.n+1+1) 0 0 1 1,AVal.nils,AVal.sl (h.n+1+1+1) 0 0 2 6,AVal.int IntKind.i64 1,
       AVal.sl (h.n+1+1+1+1+1) 0 0 3 1,AVal.nils,AVal.sl (h.n+1+1+1+1+1+1) 0 0 4 6]) (rows:=[[_,_,_,_],[_,_,_,_],[_,_,_,_]]) (by decide) ?_ rfl (by simp) ⟨⟨_,_,_,rfl,rdI_ok ?_,SlIn.nilI,s.mono (fun _ _ q=>InsR.mono fB.n (fun j hj=>fB.get j hj (by simp)) q) fB.n (fun j hj=>fB.get j hj (by simp))⟩,⟨_,_,_,rfl,rdI_ok ?_,SlIn.nilI,rdC_ok ?_⟩,⟨_,_,_,rfl,rdI_ok ?_,SlIn.nilI,rdC_ok ?_⟩,trivial⟩⟩
 all_goals (rw [←hh];simp -implicitDefEqProofs (disch:=first|exact dz _|fail) only [↓qJ,qK,qL,qA,qB,qC,qD,qE,↓reduceIte,qG,qH,qI,rdP,rdI,rdS,cellsOf,Option.bind,typsV,intsV,funsV,inssV,ltI,if_true,and_self,and_true,true_and,List.length_cons,List.length_nil,Nat.reduceAdd,Nat.reduceMul,Int.reduceLE,Int.toNat_natCast,Int.reduceToNat])
end Go.Proofs.Ytnbnpjhlflcjeaa.Id
namespace Go.Proofs.Ytnbnpjhlflcjeaa.Id
open Go Go.AM Go.Proofs.Ytnbnpjhlflcjeaa.AmGF
open Nat renaming reduceAdd → qA,reduceLeDiff → qB,reduceEqDiff → qC,reduceLT → qE
open Int renaming reduceToNat → qD,reduceEq → qG,reduceLT → qH,reduceLE → qI
theorem wrap_i64 {n:Int} (h1:-9223372036854775808≤n) (h2:n≤9223372036854775807):IntKind.i64.wrap n=n:=by
 rw [wrap_eq];simp only;split<;>omega
theorem sameLit {h:AHeap} {tv:AVal} {l:List (Int×Int×Int)} {vs:List AVal} (s:SlRd h 3 encE tv l) (m:List (Int×Int×Int)) (hv:vs=m.flatMap encE) (hb:l.length<1000000):CallP AP 19 [tv,.sl h.n 0 0 m.length 3] (h.push (.cells 0 false vs)) fun r h'=>r=.bool (decide (l=m))∧HFrame h h' [] []:=by
 have f:HFrame h (h.push (.cells 0 false vs)) [] []:=by (repeat (first | with_reducible apply HFrame.pushTmp | with_reducible refine HFrame.setTmp ?_ (by omega) _ | with_reducible exact HFrame.refl (by simp)))
 refine (sameTrace (s.keep f) (SlRd.litE (AHeap.get_push_same _ _) hv (Nat.lt_succ_self _)) hb).mono ?_
 rintro r h' ⟨rfl,rfl⟩
 exact ⟨rfl,f⟩
end Go.Proofs.Ytnbnpjhlflcjeaa.Id
namespace Go.Proofs.Ytnbnpjhlflcjeaa.Id
open Go Go.AM Go.Proofs.Ytnbnpjhlflcjeaa.AmGF
open Nat renaming reduceAdd → qA,reduceLeDiff → qB,reduceEqDiff → qC,reduceLT → qE
open Int renaming reduceToNat → qD,reduceEq → qG,reduceLT → qH,reduceLE → qI
end Go.Proofs.Ytnbnpjhlflcjeaa.Id
namespace Go.Proofs.Ytnbnpjhlflcjeaa.Id
open Go Go.AM Go.Proofs.Ytnbnpjhlflcjeaa.AmGF
open Nat renaming reduceAdd → qA,reduceLeDiff → qB,reduceEqDiff → qC,reduceLT → qE
open Int renaming reduceToNat → qD,reduceEq → qG,reduceLT → qH,reduceLE → qI
theorem InsR.cl {h:AHeap} {i:PIns} {row:List AVal} (r:InsR h i row):row.all (·.cell)=true:=by
 obtain ⟨_,v,rfl,s⟩:=r
 have:=SlIn.cellv s
 simp only [List.all_cons,List.all_nil,this];rfl
end Go.Proofs.Ytnbnpjhlflcjeaa.Id
namespace Go.Proofs.Ytnbnpjhlflcjeaa.Id
open Go Go.AM Go.Proofs.Ytnbnpjhlflcjeaa.AmGF
open Nat renaming reduceAdd → qA,reduceLeDiff → qB,reduceEqDiff → qC,reduceLT → qE
open Int renaming reduceToNat → qD,reduceEq → qG,reduceLT → qH,reduceLE → qI
/-! IdealLate. -/
def cLate1:List Nat→List PIns
 | []=>[]
 | v::l=>⟨1,1,0,0,v,[]⟩::⟨38,1,0,0,0,[1]⟩::cLate1 l
def cLate (l:List Nat):List PIns:=cLate1 l++[⟨1,1,0,0,999,[]⟩,⟨36,0,0,0,0,[]⟩]
end Go.Proofs.Ytnbnpjhlflcjeaa.Id
namespace Go.Proofs.Ytnbnpjhlflcjeaa.Id
open Go Go.AM Go.Proofs.Ytnbnpjhlflcjeaa.AmGF
open Nat renaming reduceAdd → qA,reduceLeDiff → qB,reduceEqDiff → qC,reduceLT → qE
open Int renaming reduceToNat → qD,reduceEq → qG,reduceLT → qH,reduceLE → qI
def InsL (S:List Nat) (i:PIns) (row:List AVal):Prop:=i.imm≤18446744073709551615∧∃ v,row=[.int .i64 i.op,.int .i64 i.a,.int .i64 i.b,.int .i64 i.c,.int .u64 i.imm,v]∧((v=.nils∧i.list=[])∨∃ id,id∈S∧v=.sl id 0 0 1 1∧i.list=[1])
def Ones (h:AHeap) (S:List Nat):Prop:=∀ id,id∈S→h.get id=.cells 0 false [.int .i64 1]∧id<h.n
theorem InsL.cl {S:List Nat} {i:PIns} {row:List AVal} (r:InsL S i row):row.all (·.cell)=true:=by
 obtain ⟨_,v,rfl,s⟩:=r
 rcases s with ⟨rfl,_⟩ | ⟨id,_,rfl,_⟩<;>rfl
theorem InsL.ins {h:AHeap} {S:List Nat} (o:Ones h S) {i:PIns} {row:List AVal} (r:InsL S i row):InsR h i row:=by
 obtain ⟨a,v,rfl,s⟩:=r
 refine ⟨a,v,rfl,?_⟩
 rcases s with ⟨rfl,e⟩ | ⟨id,hid,rfl,e⟩
 ·rw [e];exact SlIn.nilI
 ·rw [e];exact SlIn.lit (l:=[1]) (o id hid).1 rfl (o id hid).2
theorem InsL.more {S S':List Nat} (hs:∀ j,j∈S→j∈S') {i:PIns} {row:List AVal} (r:InsL S i row):InsL S' i row:=by
 obtain ⟨a,v,e,s⟩:=r
 exact ⟨a,v,e,s.imp id fun ⟨id,hid,q⟩=>⟨id,hs id hid,q⟩⟩
end Go.Proofs.Ytnbnpjhlflcjeaa.Id
namespace Go.Proofs.Ytnbnpjhlflcjeaa.Id
open Go Go.AM Go.Proofs.Ytnbnpjhlflcjeaa.AmGF
open Nat renaming reduceAdd → qA,reduceLeDiff → qB,reduceEqDiff → qC,reduceLT → qE
open Int renaming reduceToNat → qD,reduceEq → qG,reduceLT → qH,reduceLE → qI
end Go.Proofs.Ytnbnpjhlflcjeaa.Id
namespace Go.Proofs.Ytnbnpjhlflcjeaa.Id
open Go Go.AM Go.Proofs.Ytnbnpjhlflcjeaa.AmGF
open Nat renaming reduceAdd → qA,reduceLeDiff → qB,reduceEqDiff → qC,reduceLT → qE
open Int renaming reduceToNat → qD,reduceEq → qG,reduceLT → qH,reduceLE → qI
end Go.Proofs.Ytnbnpjhlflcjeaa.Id
namespace Go.Proofs.Ytnbnpjhlflcjeaa.Id
open Go Go.AM Go.Proofs.Ytnbnpjhlflcjeaa.AmGF
open Nat renaming reduceAdd → qA,reduceLeDiff → qB,reduceEqDiff → qC,reduceLT → qE
open Int renaming reduceToNat → qD,reduceEq → qG,reduceLT → qH,reduceLE → qI
/-! Floats: plain facts. -/
theorem cmp_self (x:Int):compare x x=.eq:=by simp [compare,compareOfLessAndEq]
theorem order_self {n:Nat} (h:(F64.read n).isNaN=false):F64.order n n=some .eq:=by
 unfold Ieee.Format.order
 cases hd:F64.read n with
 | nan s t=>rw [hd] at h;simp [Ieee.Datum.isNaN] at h
 | infinity s =>
  show some (compare s.toNat s.toNat)=_
  cases s<;>rfl
 | number s m i =>
  show some (compare _ _)=_
  rw [cmp_self]
theorem self_nan {n:Nat}:selfF n=!(F64.read n).isNaN:=by
 cases h:(F64.read n).isNaN with
 | true=>unfold selfF;rw [order_nanL h];rfl
 | false=>unfold selfF;rw [order_self h];rfl
theorem nanC_nan:(F64.read 9221120237041090561).isNaN=true:=by decide
theorem canon_eq (x:Int) (h:0≤x):fltEq .f64 x.toNat (canonF x).toNat:=by
 unfold canonF bitsF
 cases c:selfF x.toNat with
 | true=>rw [if_pos rfl];exact .inl (Int.toNat_natCast _)
 | false =>
  rw [if_neg (by simp)]
  refine .inr ⟨?_,nanC_nan⟩
  have:=self_nan (n:=x.toNat)
  rw [c] at this
  cases hn:(F64.read x.toNat).isNaN with
  | true=>rfl
  | false=>rw [hn] at this;cases this
theorem addC {x y:Int} (hx:0≤x) (hy:0≤y):addF (canonF x) (canonF y)=addF x y:=by
 unfold addF
 rw [←fltEq.both (g:=F64.add) (fun _ _=>add_nanL) (fun _ _=>add_nanR) (canon_eq x hx) (canon_eq y hy)]
theorem subC {x y:Int} (hx:0≤x) (hy:0≤y):subF (canonF x) (canonF y)=subF x y:=by
 unfold subF
 rw [←fltEq.both (g:=F64.sub) (fun _ _=>sub_nanL) (fun _ _=>sub_nanR) (canon_eq x hx) (canon_eq y hy)]
theorem mulC {x y:Int} (hx:0≤x) (hy:0≤y):mulF (canonF x) (canonF y)=mulF x y:=by
 unfold mulF
 rw [←fltEq.both (g:=F64.mul) (fun _ _=>mul_nanL) (fun _ _=>mul_nanR) (canon_eq x hx) (canon_eq y hy)]
theorem divC {x y:Int} (hx:0≤x) (hy:0≤y):divF (canonF x) (canonF y)=divF x y:=by
 unfold divF
 rw [←fltEq.both (g:=F64.div) (fun _ _=>div_nanL) (fun _ _=>div_nanR) (canon_eq x hx) (canon_eq y hy)]
theorem write_lt (d:Ieee.Datum):F64.write d<18446744073709551616:=by
 have w1:F64.signWeight=9223372036854775808:=by decide
 have w2:F64.binade=4503599627370496:=by decide
 have w3:F64.infRung=9218868437227405312:=by decide
 have hw:∀ s r,r<9223372036854775808→F64.word s r<18446744073709551616:=by
  intro s r hr
  unfold Ieee.Format.word
  rw [w1]
  split<;>omega
 cases d with
 | number s m i =>
  show F64.nearest s m i<_
  unfold Ieee.Format.nearest
  split
  ·exact hw _ _ (by decide)
  ·exact hw _ _ (by rw [w3];omega)
 | infinity s=>exact hw _ _ (by rw [w3];decide)
 | nan s t =>
  refine hw _ _ ?_
  rw [w3,w2]
  have:=Nat.mod_lt t (by decide:0<4503599627370496)
  omega
theorem getD_lt {o:Option Ieee.Datum}:(o.map F64.write).getD (nanRep .f64)<18446744073709551616:=by
 cases o with
 | none=>show nanRep .f64<_;decide
 | some d=>exact write_lt d
theorem bits_lt {n:Nat} (h:n<18446744073709551616):0≤bitsF n∧bitsF n≤18446744073709551615:=by
 unfold bitsF
 split<;>omega
theorem addB (x y:Int):0≤addF x y∧addF x y≤18446744073709551615:=bits_lt getD_lt
theorem subB (x y:Int):0≤subF x y∧subF x y≤18446744073709551615:=bits_lt getD_lt
theorem mulB (x y:Int):0≤mulF x y∧mulF x y≤18446744073709551615:=bits_lt getD_lt
theorem divB (x y:Int):0≤divF x y∧divF x y≤18446744073709551615:=bits_lt getD_lt
theorem isNaN_iff {n:Nat} (h:n<18446744073709551616):(F64.read n).isNaN=decide (n / 4503599627370496%2048=2047∧n%4503599627370496≠0):=by
 have w1:F64.signWeight=9223372036854775808:=by decide
 have w2:F64.binade=4503599627370496:=by decide
 have w3:F64.infRung=9218868437227405312:=by decide
 unfold Ieee.Format.read
 simp only [w1,w2,w3]
 split
 ·rw [Eq.comm,show Ieee.Datum.isNaN (.number _ _ _)=false from rfl,decide_eq_false_iff_not];omega
 ·split
  ·rw [Eq.comm,show Ieee.Datum.isNaN (.number _ _ _)=false from rfl,decide_eq_false_iff_not];omega
  ·split
   ·rw [Eq.comm,show Ieee.Datum.isNaN (.infinity _)=false from rfl,decide_eq_false_iff_not];omega
   ·rw [Eq.comm,show Ieee.Datum.isNaN (.nan _ _)=true from rfl,decide_eq_true_eq];omega
end Go.Proofs.Ytnbnpjhlflcjeaa.Id
namespace Go.Proofs.Ytnbnpjhlflcjeaa.Id
open Go Go.AM Go.Proofs.Ytnbnpjhlflcjeaa.AmGF
open Nat renaming reduceAdd → qA,reduceLeDiff → qB,reduceEqDiff → qC,reduceLT → qE
open Int renaming reduceToNat → qD,reduceEq → qG,reduceLT → qH,reduceLE → qI
theorem canon_self {x:Int} (h:0≤x):selfF (canonF x).toNat=selfF x.toNat:=by
 rw [self_nan,self_nan]
 rcases canon_eq x h with e | ⟨e1,e2⟩
 ·rw [e]
 ·rw [e1,e2]
theorem toC {x:Int} (h:0≤x):toIF (canonF x)=toIF x:=by
 have hs:=canon_self h
 rcases canon_eq x h with e | ⟨e1,e2⟩
 ·unfold toIF;rw [e]
 ·have:selfF x.toNat=false:=by rw [self_nan,e1];rfl
  unfold toIF
  rw [hs,this,if_pos rfl,if_pos rfl]
theorem cut_bound (s:Bool) (n d B:Nat) (h:n<B*2^d∨(n≤B*2^d)):Ieee.Toward.zero.cut s n d≤B:=by
 have h:n≤B*2^d:=by omega
 unfold Ieee.Toward.cut
 simp only [Bool.toNat_false,Nat.add_zero]
 rw [Nat.shiftLeft_eq,Nat.one_mul]
 by_cases c:d≤n.log2+2
 ·rw [Nat.min_eq_left c]
  exact Nat.div_le_of_le_mul (by rw [Nat.mul_comm];exact h)
 ·rw [Nat.min_eq_right (by omega)]
  have h1:n<2^(n.log2+2):=by
   by_cases h0:n=0
   ·subst h0;exact Nat.two_pow_pos _
   ·exact Nat.lt_of_lt_of_le (Nat.lt_log2_self) (Nat.pow_le_pow_right (by decide) (by omega))
  rw [Nat.div_eq_of_lt h1];exact Nat.zero_le _
theorem cut_lt (s:Bool) (n d B:Nat) (h:n<B*2^d):Ieee.Toward.zero.cut s n d<B:=by
 unfold Ieee.Toward.cut
 simp only [Bool.toNat_false,Nat.add_zero]
 rw [Nat.shiftLeft_eq,Nat.one_mul]
 have hB:0<B:=by
  rcases Nat.eq_zero_or_pos B with e | e
  ·subst e;omega
  ·exact e
 by_cases c:d≤n.log2+2
 ·rw [Nat.min_eq_left c]
  exact Nat.div_lt_of_lt_mul (by rw [Nat.mul_comm];exact h)
 ·rw [Nat.min_eq_right (by omega)]
  have h1:n<2^(n.log2+2):=by
   by_cases h0:n=0
   ·subst h0;exact Nat.two_pow_pos _
   ·exact Nat.lt_of_lt_of_le (Nat.lt_log2_self) (Nat.pow_le_pow_right (by decide) (by omega))
  rw [Nat.div_eq_of_lt h1];exact hB
theorem mag_lt {m:Nat} {i:Int} (h:(m <<< (i-min i 11).toNat)<(4503599627370496 <<< (11-min i 11).toNat)):(m <<< i.toNat)<9223372036854775808*2^(-i).toNat:=by
 rw [Nat.shiftLeft_eq,Nat.shiftLeft_eq] at h
 rw [Nat.shiftLeft_eq]
 have e0:(9223372036854775808:Nat)=4503599627370496*2^11:=by decide
 by_cases c:11≤i
 ·have e1:min i 11=11:=by omega
  rw [e1] at h
  have e2:i.toNat=(i-11).toNat+11:=by omega
  have e3:(-i).toNat=0:=by omega
  rw [e2,e3,Nat.pow_add,←Nat.mul_assoc,Nat.pow_zero,Nat.mul_one,e0]
  have e4:((11:Int)-11).toNat=0:=by decide
  rw [e4,Nat.pow_zero,Nat.mul_one] at h
  exact Nat.mul_lt_mul_of_pos_right h (by decide)
 ·have e1:min i 11=i:=by omega
  rw [e1] at h
  have e2:(i-i).toNat=0:=by omega
  rw [e2,Nat.pow_zero,Nat.mul_one] at h
  by_cases c2:0≤i
  ·have e3:(-i).toNat=0:=by omega
   rw [e3,Nat.pow_zero,Nat.mul_one,e0]
   have e5:2^11=2^(11-i).toNat*2^i.toNat:=by rw [←Nat.pow_add];congr 1;omega
   rw [e5,←Nat.mul_assoc]
   exact Nat.mul_lt_mul_of_pos_right h (Nat.two_pow_pos _)
  ·have e3:i.toNat=0:=by omega
   rw [e3,Nat.pow_zero,Nat.mul_one,e0,Nat.mul_assoc,←Nat.pow_add]
   have e5:(11-i).toNat=11+(-i).toNat:=by omega
   rw [e5] at h
   exact h
theorem mag_le {m:Nat} {i:Int} (h:(m <<< (i-min i 11).toNat)≤(4503599627370496 <<< (11-min i 11).toNat)):(m <<< i.toNat)≤9223372036854775808*2^(-i).toNat:=by
 rw [Nat.shiftLeft_eq,Nat.shiftLeft_eq] at h
 rw [Nat.shiftLeft_eq]
 have e0:(9223372036854775808:Nat)=4503599627370496*2^11:=by decide
 by_cases c:11≤i
 ·have e1:min i 11=11:=by omega
  rw [e1] at h
  have e2:i.toNat=(i-11).toNat+11:=by omega
  have e3:(-i).toNat=0:=by omega
  rw [e2,e3,Nat.pow_add,←Nat.mul_assoc,Nat.pow_zero,Nat.mul_one,e0]
  have e4:((11:Int)-11).toNat=0:=by decide
  rw [e4,Nat.pow_zero,Nat.mul_one] at h
  exact Nat.mul_le_mul_right _ h
 ·have e1:min i 11=i:=by omega
  rw [e1] at h
  have e2:(i-i).toNat=0:=by omega
  rw [e2,Nat.pow_zero,Nat.mul_one] at h
  by_cases c2:0≤i
  ·have e3:(-i).toNat=0:=by omega
   rw [e3,Nat.pow_zero,Nat.mul_one,e0]
   have e5:2^11=2^(11-i).toNat*2^i.toNat:=by rw [←Nat.pow_add];congr 1;omega
   rw [e5,←Nat.mul_assoc]
   exact Nat.mul_le_mul_right _ h
  ·have e3:i.toNat=0:=by omega
   rw [e3,Nat.pow_zero,Nat.mul_one,e0,Nat.mul_assoc,←Nat.pow_add]
   have e5:(11-i).toNat=11+(-i).toNat:=by omega
   rw [e5] at h
   exact h
theorem cmp_lt {x y:Int} (h1:compare x y≠.gt) (h2:compare x y≠.eq):x<y:=by
 simp only [compare,compareOfLessAndEq] at h1 h2
 split at h1
 ·assumption
 ·split at h1
  ·rename_i a b;rw [if_neg a,if_pos b] at h2;exact absurd rfl h2
  ·exact absurd rfl h1
theorem cmp_ge {x y:Int} (h1:compare x y≠.lt):y≤x:=by
 simp only [compare,compareOfLessAndEq] at h1
 split at h1
 ·exact absurd rfl h1
 ·omega
theorem toIF_some (x:Int):∃ n,toIF x=some n∧-9223372036854775808≤n∧n≤9223372036854775807:=by
 unfold toIF
 have r1:F64.read 4890909195324358656=.number false 4503599627370496 11:=by decide
 have r2:F64.read 14114281232179134464=.number true 4503599627370496 11:=by decide
 split
 ·exact ⟨_,rfl,by decide,by decide⟩
 ·rename_i c1
  split
  ·exact ⟨_,rfl,by decide,by decide⟩
  ·rename_i c2
   split
   ·exact ⟨_,rfl,by decide,by decide⟩
   ·rename_i c3
    unfold Ieee.Format.order at c2 c3
    rw [r1] at c2
    rw [r2] at c3
    unfold f2iF FloatKind.decode
    cases hd:F64.read x.toNat with
    | nan s t =>
     exfalso
     apply c1
     rw [self_nan,hd];rfl
    | infinity s =>
     rw [hd] at c2 c3
     exfalso
     cases s
     ·exact c2 (.inl rfl)
     ·exact c3 rfl
    | number s m i =>
     rw [hd] at c2 c3
     have c2':¬ (some (compare (Ieee.signed s m (i-min i 11).toNat) (Ieee.signed false 4503599627370496 (11-min i 11).toNat))=some .gt∨some (compare (Ieee.signed s m (i-min i 11).toNat) (Ieee.signed false 4503599627370496 (11-min i 11).toNat))=some .eq):=c2
     have c3':¬ some (compare (Ieee.signed s m (i-min i 11).toNat) (Ieee.signed true 4503599627370496 (11-min i 11).toNat))=some .lt:=c3
     have hlt:=cmp_lt (fun e=>c2' (.inl (by rw [e]))) (fun e=>c2' (.inr (by rw [e])))
     have hge:=cmp_ge (fun e=>c3' (by rw [e]))
     show ∃ n,((some (Ieee.signed s (Ieee.Toward.zero.cut s (m <<< i.toNat) (-i).toNat) 0)).bind fun n=>if IntKind.i64.min≤n∧n≤IntKind.i64.max then some n else none)=some n∧_
     have k1:IntKind.i64.min=-9223372036854775808:=by decide
     have k2:IntKind.i64.max=9223372036854775807:=by decide
     simp only [Option.bind_some,k1,k2]
     unfold Ieee.signed at hlt hge ⊢
     cases s with
     | false =>
      simp only [Bool.false_eq_true,if_false,if_true] at hlt hge ⊢
      have h1:=cut_lt false (m <<< i.toNat) (-i).toNat 9223372036854775808 (mag_lt (by omega))
      rw [Nat.shiftLeft_zero]
      exact ⟨_,if_pos ⟨by omega,by omega⟩,by omega,by omega⟩
     | true =>
      simp only [Bool.false_eq_true,if_false,if_true] at hlt hge ⊢
      have h1:=cut_bound true (m <<< i.toNat) (-i).toNat 9223372036854775808 (.inr (mag_le (by omega)))
      rw [Nat.shiftLeft_zero]
      exact ⟨_,if_pos ⟨by omega,by omega⟩,by omega,by omega⟩
end Go.Proofs.Ytnbnpjhlflcjeaa.Id
namespace Go.Proofs.Ytnbnpjhlflcjeaa.Id
open Go Go.AM Go.Proofs.Ytnbnpjhlflcjeaa.AmGF
open Nat renaming reduceAdd → qA,reduceLeDiff → qB,reduceEqDiff → qC,reduceLT → qE
open Int renaming reduceToNat → qD,reduceEq → qG,reduceLT → qH,reduceLE → qI
/-! IdealFloats: the program,and what it shows. -/
def cFl (k:Int) (x y:Nat):List PIns:=[⟨1,4,0,0,x,[]⟩,⟨1,5,0,0,y,[]⟩,⟨k,6,4,5,0,[]⟩,⟨48,6,0,0,0,[]⟩,⟨26,7,0,0,0,[]⟩,⟨30,7,6,1,0,[]⟩,⟨29,5,7,1,0,[]⟩,⟨48,5,0,0,0,[]⟩,⟨19,0,5,6,0,[]⟩,⟨48,0,0,0,0,[]⟩,⟨22,1,4,0,0,[]⟩,⟨48,1,0,0,0,[]⟩,⟨36,0,0,0,0,[]⟩]
theorem shownN_add:∀ (m n:Nat) (i:Int) (d:Run),shownN (m+n) i d=(shownN m i d).bind fun d'=>shownN n (i+m) d'
 | 0,n,i,d=>by
  rw [Nat.zero_add]
  show _=shownN n (i+(0:Nat)) d
  rw [show i+((0:Nat):Int)=i by omega]
 | m+1,n,i,d=>by
  rw [show m+1+n=(m+n)+1 by omega]
  simp only [shownN]
  cases hl:lim d.gs 1000000 with
  | none=>simp only [Option.bind_none]
  | some u =>
   simp only [Option.bind_some]
   cases he:d.ended with
   | true =>
    simp only [if_true,Option.bind_some]
    cases n with
    | zero=>rfl
    | succ n=>simp only [shownN];rw [hl,Option.bind_some,he];rfl
   | false =>
    simp only [Bool.false_eq_true,if_false]
    have ei:i+1+(m:Int)=i+((m+1:Nat):Int):=by omega
    cases firstReady d.gs 0 with
    | none=>simp only;rw [shownN_add m n (i+1) d,ei]
    | some k =>
     simp only
     cases d.step k (u64 i) with
     | none=>simp only [Option.bind_none]
     | some x=>simp only [Option.bind_some];rw [shownN_add m n (i+1) x.2,ei]
def sFl (k:Int) (x y:Nat) (pc s1:Int) (w:Int) (tr:List (Int×Int×Int)):Run :=
 ⟨pOne (cFl k x y),[],[⟨0,[],none⟩,⟨16,[0,w],none⟩],[⟨1,0,false,[⟨0,pc,1,[if eqF w w then 1 else 0,s1,0,0,canonF x,w,w,1,0,0],[],[],0,false,[]⟩],1,false,0,false⟩],0,tr,false,0⟩
def wFl (k:Int) (x y:Int):Int:=floatF k x y
def tFl (w n:Int):List (Int×Int×Int):=[(2,0,w),(2,0,w),(1,0,if eqF w w then 1 else 0),(1,0,n),(3,0,0)]
theorem fl1 (x y:Nat) (k:Int) (hk:k=15∨k=16∨k=17∨k=18):((Run.new (pOne (cFl k x y))).bind fun R0=>shownN 10 0 R0)=some (sFl k x y 10 0 (wFl k (canonF x) (canonF y)) [(2,0,wFl k (canonF x) (canonF y)),(2,0,wFl k (canonF x) (canonF y)),(1,0,if eqF (wFl k (canonF x) (canonF y)) (wFl k (canonF x) (canonF y)) then 1 else 0)]):=by
 rcases hk with rfl | rfl | rfl | rfl<;>kernel_rfl
theorem fl2 (x y:Nat) (k:Int) (c w:Int) (tr:List (Int×Int×Int)):(sFl k x y 10 0 w tr).step 0 c=(((toIF (canonF x)).bind fun n=>some (sFl k x y 11 (u64 n) w tr)).bind fun d=>d.ending.map fun d=>((0:Int),d)):=by kernel_rfl
theorem flEnd (x y:Nat) (k s1 w:Int) (tr:List (Int×Int×Int)):(sFl k x y 11 s1 w tr).ending=some (sFl k x y 11 s1 w tr):=by kernel_rfl
theorem fl3 (x y:Nat) (k:Int) (s1 w z:Int):((shownN 9 11 (sFl k x y 11 s1 w [(2,0,w),(2,0,w),(1,0,z)])).bind fun R1=>if R1.trace.length<1000000 then some R1.trace else none)=some [(2,0,w),(2,0,w),(1,0,z),(1,0,s1),(3,0,0)]:=by kernel_rfl
theorem showFl (x y:Nat) (k:Int) (hk:k=15∨k=16∨k=17∨k=18) {n:Int} (hn:toIF (canonF x)=some n):showF (pOne (cFl k x y)) 20=some (tFl (wFl k (canonF x) (canonF y)) (u64 n)):=by
 have h1:=fl1 x y k hk
 unfold showF
 simp only [Option.bind_eq_some_iff] at h1
 obtain ⟨R0,h0,h1⟩:=h1
 rw [h0,Option.bind_some,show 20=10+(1+9) from rfl,shownN_add,h1,Option.bind_some,shownN_add]
 have e1:∀ (w:Int) (tr:List (Int×Int×Int)) (i:Int),shownN 1 i (sFl k x y 10 0 w tr)=some (sFl k x y 11 (u64 n) w tr):=by
  intro w tr i
  have:shownN 1 i (sFl k x y 10 0 w tr)=((sFl k x y 10 0 w tr).step 0 (u64 i)).bind fun x=>some x.2:=rfl
  rw [this,fl2,hn,Option.bind_some,Option.bind_some,flEnd]
  rfl
 rw [e1,Option.bind_some]
 exact fl3 x y k (u64 n) _ _
theorem goodFl (x y:Nat) (hx:x≤18446744073709551615) (hy:y≤18446744073709551615) (k:Int) (hk:k=15∨k=16∨k=17∨k=18):goodP (pOne (cFl k x y))=true:=by
 simp only [goodP,Bool.and_eq_true,decide_eq_true_eq]
 rcases hk with rfl | rfl | rfl | rfl
 all_goals
  refine ⟨⟨?_,by kernel_rfl⟩,by kernel_rfl⟩
  simp only [cFl,okP,okF,okI,pOne,List.all_cons,List.all_nil,hx,hy,Bool.and_true,Bool.true_and,decide_true,if_true,Bool.false_eq_true,if_false]
  kernel_rfl
end Go.Proofs.Ytnbnpjhlflcjeaa.Id