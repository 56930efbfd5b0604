/-
 What the functions of this seat do,on the machine: lemmas for the laws.
-/
import Derived.Test.YtnbnpjhlflcjeaaBX6
import Derived.Test.YtnbnpjhlflcjeaaBX7
set_option linter.unusedSimpArgs false
set_option linter.unusedVariables false
set_option maxRecDepth 100000
attribute [local irreducible] Go.AM.wp Go.AM.wpIs Go.AM.wpTr Go.AM.opI Go.AM.gI Go.AM.cI Go.AM.trI Go.AM.callI Go.AM.fnI Go.AM.yldI Go.AM.rangeI Go.AM.rangeC Go.AM.YldP Go.AM.asgQ Go.AM.roundQ Go.AM.rangeQ Go.AM.trG Go.AM.trOp Go.AM.trCall Go.AM.seqC Go.AM.loopI
namespace Go.Proofs.Ytnbnpjhlflcjeaa.Id.V
open Go Go.AM Go.Proofs.Ytnbnpjhlflcjeaa.AmGB
open Nat renaming reduceAdd → qA,reduceLeDiff → qB,reduceEqDiff → qC,reduceLT → qE
open Int renaming reduceToNat → qD,reduceEq → qG,reduceLT → qH,reduceLE → qI
theorem HFrame.non {h h':AHeap} {A B:List Nat} (f:HFrame h h' A B):HFrame h h' A []:=⟨f.n,f.g,f.get,fun j hj=>(nomatch hj),fun j hj=>(nomatch hj)⟩
def listF (sl slots kinds:List Int):Int:=if slots.length≠kinds.length then 16 else areF sl (slots.zip kinds)
theorem flat_take {l:List (Int×Int)} {i:Nat} {x:Int×Int} (h:l[i]?=some x):flat (l.take (i+1))=flat (l.take i)++[x.1,x.2]:=by
 rw [take_succ_of h,flat,List.flatMap_append];rfl
set_option maxHeartbeats 2000000 in
theorem list {h:AHeap} {c:Nat} {p:PProg} {f:PFunc} {i:PIns} (C:CkR h c p f i) {v w:AVal} {slots kinds:List Int} (L:SlIn h 1 encK v slots) (K:SlIn h 1 encK w kinds) (hl:slots.length<1000) :
  CallP AP 100 [.ptr c 0 0,v,w] h fun r h'=>HFrame h h' [] []∧r=.int .i64 (listF f.slots slots kinds):=by
 refine callP (rfl:Tr.get AP 100=some A100) ?_
 generalize hQ:(fun (r:AVal) (h':AHeap)=>_)=Q
 have l1:=L.len
 have l2:=K.len
 simp -implicitDefEqProofs (disch:=first|exact dz _|fail) only [↓AM.R0,AM.R1,AM.R2,qA,qB,qC,qD,qE,↓reduceIte,qG,qH,qI,l1,l2]
 refine AM.cI_bool (fun hb=>?_) (fun hb=>?_)
 ·have hb':slots.length≠kinds.length:=by simp at hb;omega
  simp -implicitDefEqProofs (disch:=first|exact dz _|fail) only [↓AM.R0,AM.R1,AM.R2,qA,qB,qC,qD,qE,↓reduceIte,qG,qH,qI]
  subst hQ
  exact ⟨HFrame.refl (by simp),by rw [listF,if_pos hb']⟩
 ·have hb':slots.length=kinds.length:=by simp at hb;omega
  simp -implicitDefEqProofs (disch:=first|exact dz _|fail) only [↓AM.R0,AM.R1,AM.R2,qA,qB,qC,qD,qE,↓reduceIte,qG,qH,qI,l1]
  refine AM.loopI_of (fun k e h'=>∃ (x:Nat) (u:AVal) (F:List Nat),k+x=slots.length∧e.val 0=.ptr c 0 0∧e.val 2=w∧e.val 7=u∧e.val 15=v∧e.val 16=.int .i64 slots.length∧e.val 17=.int .i64 x∧HFrame h h' [] F∧SlOf h' 1 encK u (flat ((slots.zip kinds).take x)) F) slots.length ?_ ?_
  ·refine ⟨0,.nils,[],by omega,?_,?_,?_,?_,?_,?_,HFrame.refl (by simp),SlOf.nil⟩<;>simp -implicitDefEqProofs (disch:=first|exact dz _|fail) only [↓AM.R0,AM.R1,AM.R2,qA,qB,qC,qD,qE,↓reduceIte,qG,qH,qI]<;>rfl
  ·rintro k e h' ⟨x,u,F,hk,e0,e2,e7,e15,e16,e17,fr,s⟩
   simp -implicitDefEqProofs (disch:=first|exact dz _|fail) only [↓AM.R0,AM.R1,AM.R2,qA,qB,qC,qD,qE,↓reduceIte,qG,qH,qI,e15,e16,e17]
   refine AM.cI_bool (fun hc=>?_) (fun hc=>?_)
   ·simp only [decide_eq_true_eq] at hc
    obtain ⟨a,ha⟩:∃ a,slots[x]?=some a:=⟨_,List.getElem?_eq_getElem (by omega)⟩
    obtain ⟨b,hb2⟩:∃ a,kinds[x]?=some a:=⟨_,List.getElem?_eq_getElem (by omega)⟩
    have hz:(slots.zip kinds)[x]?=some (a,b):=by rw [List.getElem?_zip_eq_some];exact ⟨ha,hb2⟩
    obtain ⟨j,g,off,vs,ro,x1,x2,x3,x5⟩:=((L.keep fr).rd ha).ix1 (enc:=fun n=>.int .i64 n) ha .i64
    obtain ⟨j2,g2,off2,vs2,ro2,y1,y2,y3,y5⟩:=((K.keep fr).rd hb2).ix1 (enc:=fun n=>.int .i64 n) hb2 .i64
    have hw:IntKind.i64.wrap ((x:Int)+1)=((x+1:Nat):Int):=wrap64 (by omega) (by omega)
    simp -implicitDefEqProofs (disch:=first|exact dz _|fail) only [↓AM.R0,AM.R1,AM.R2,qA,qB,qC,qD,qE,↓reduceIte,qG,qH,qI,e0,e2,e7,e15,e16,e17,x1,x2,x5,y1,y2,y5,AM.a_buildSlice,List.range,List.range.loop,List.getD_cons_zero,Nat.mod_one]
    have fP:=fr.pushTmp (.cells 0 false [.int .i64 a,.int .i64 b])
    have sP:SlOf (h'.push (.cells 0 false [.int .i64 a,.int .i64 b])) 1 encK u (flat ((slots.zip kinds).take x)) F:=s.frame (by simp) fun j hj=>AHeap.get_push_ne _ _ (by have:=s.lt j hj;omega)
    have len1:(flat ((slots.zip kinds).take x)).length≤2*x:=by rw [flat_len,List.length_take];omega
    refine AM.opI_of (SlOf.app sP (l2:=[a,b]) (.inr ⟨h'.n,0,0,_,false,rfl,AHeap.get_push_same _ _,by simp,by simp,by simp⟩) (fun _=>rfl) (fun _=>rfl) (by simp only [List.length_cons,List.length_nil];omega) fun mv h4 F4 s4 f4=>?_)
    simp -implicitDefEqProofs (disch:=first|exact dz _|fail) only [↓AM.R0,AM.R1,AM.R2,qA,qB,qC,qD,qE,↓reduceIte,qG,qH,qI,e0,e2,e7,e15,e16,e17,hw]
    refine ⟨slots.length-(x+1),by omega,x+1,mv,F4,by omega,rfl,rfl,fP.trans f4,?_⟩
    rw [flat_take hz]
    exact s4
   ·have hx:x=slots.length:=by simp only [decide_eq_false_iff_not] at hc;omega
    have hlen:(slots.zip kinds).length=slots.length:=by rw [List.length_zip];omega
    rw [List.take_of_length_le (by omega)] at s
    simp -implicitDefEqProofs (disch:=first|exact dz _|fail) only [↓AM.R0,AM.R1,AM.R2,qA,qB,qC,qD,qE,↓reduceIte,qG,qH,qI,e0,e7]
    refine AM.callI_of (are ((C.keep (HFrame.non fr))) (.inl s.rd) (by omega)) ?_
    rintro r h3 ⟨rfl,rfl⟩
    simp -implicitDefEqProofs (disch:=first|exact dz _|fail) only [↓AM.R0,AM.R1,AM.R2,qA,qB,qC,qD,qE,↓reduceIte,qG,qH,qI]
    subst hQ
    exact ⟨HFrame.non fr,by rw [listF,if_neg (by omega)]⟩
theorem SlIn.upto {h:AHeap} {v:AVal} {l:List Int} (L:SlIn h 1 encK v l) {n:Int} (h0:0≤n) (h1:n≤l.length):∃ v',slV h 1 v none (some (.int .i64 n))=some (v',h)∧SlIn h 1 encK v' (l.take n.toNat):=by
 rcases L with (⟨rfl,rfl⟩ | ⟨id,g,off,vs,ro,rfl,e1,e2,e3,e4⟩) | ⟨rfl,id,off,rfl,e1,e2⟩
 ·have:n=0:=by simp at h1;omega
  subst this
  exact ⟨.nils,rfl,.inl (.inl ⟨rfl,by simp⟩)⟩
 ·refine ⟨.sl id g off n.toNat 1,AM.sl_upto _ e1 h0 h1,.inl (.inr ⟨id,g,off,vs,ro,?_,e1,e2,?_,?_⟩)⟩
  ·rw [List.length_take,Nat.min_eq_left (by omega)]
  ·rw [List.length_take];omega
  ·have hm:∀ l:List Int,l.flatMap encK=l.map fun n=>.int .i64 n:=fun l=>by
    induction l with
    | nil=>rfl
    | cons a l ih=>rw [List.flatMap_cons,ih];rfl
   rw [hm] at e4
   rw [hm,List.map_take,←e4,List.take_take,List.length_take]
   congr 1
   omega
 ·have:n=0:=by simp at h1;omega
  subst this
  refine ⟨.sl id 0 off 0 1,?_,.inr ⟨by simp,id,off,rfl,e1,e2⟩⟩
  simp [slV,e2]
theorem SlOf.appIn {h:AHeap} {esz:Nat} {α:Type} {enc:α→List AVal} {v:AVal} {l:List α} {F:List Nat} (s:SlOf h esz enc v l F) {y:AVal} {l2:List α} (t:SlIn h esz enc y l2) (hE:∀ a,(enc a).length=esz) (hC:∀ a,(enc a).all (·.cell)=true) {bytes:Nat} (hb:(l.length+l2.length)*bytes≤1099511627776) {k:AVal→AHeap→Prop}
  (w:∀ v' h' F',SlOf h' esz enc v' (l++l2) F'→HFrame h h' F F'→k v' h'):AM.wpOp (h.app esz bytes v y) k:=by
 rcases t with t | ⟨rfl,id,off,rfl,e1,e2⟩
 ·exact SlOf.app s t hE hC hb w
 ·have e:h.app esz bytes v (.sl id 0 off 0 esz)=h.app esz bytes v .nils:=by
   have a1:h.elems esz (.sl id 0 off 0 esz)=some (0,[]):=by simp [AHeap.elems,e1,e2]
   have a2:h.elems esz .nils=some (0,[]):=rfl
   unfold AHeap.app
   rw [a1,a2]
  rw [e]
  exact SlOf.app s (.inl ⟨rfl,rfl⟩) hE hC hb w
def goF (p:PProg) (f:PFunc) (i:PIns):Int :=
 if i.a<0∨p.funcs.length≤i.a then 13 else
 match p.funcs[i.a.toNat]? with
 | none=>0
 | some g=>if i.op≠35 then (if g.results.length≠0 then 13 else if (g.slots.take g.params.toNat).any (fun k=>decide (k=2))=true then 10 else listF f.slots i.list (g.slots.take g.params.toNat)) else listF f.slots i.list (g.slots.take g.params.toNat++g.results)
def callsF (p:PProg) (f:PFunc) (i:PIns):Int:=if i.op=36 then listF f.slots i.list f.results else goF p f i
def Hp (p:PProg):Prop:=∀ g,g∈p.funcs→0≤g.params∧g.params≤g.slots.length∧g.slots.length≤32∧g.results.length≤32
set_option maxHeartbeats 4000000 in
theorem calls {h:AHeap} {c:Nat} {p:PProg} {f:PFunc} {i:PIns} (C:CkR h c p f i) (H:Hp p) (hl:i.list.length≤24) {row:List AVal} (R:InsR h i row) :
  CallP AP 82 [.ptr c 0 0,.agg row] h fun r h'=>HFrame h h' [] []∧r=.int .i64 (callsF p f i):=by
 obtain ⟨_,lw,rfl,L⟩:=R
 refine callP (rfl:Tr.get AP 82=some A82) ?_
 generalize hQ:(fun (r:AVal) (h':AHeap)=>_)=Q
 have cl:=SlIn.cellv L
 have f0:=(HFrame.refl (h:=h) (F:=[]) (by simp)).pushTmp (.cells 0 false [.int .i64 i.op,.int .i64 i.a,.int .i64 i.b,.int .i64 i.c,.int .u64 i.imm,lw])
 have C0:=C
 obtain ⟨tv,gv,fv,sv,rv,cv,at_,lv,g,lt,s1,s2,s3,s4,s5,s6,hi,s7⟩:=C
 have l3:=s3.len
 simp -implicitDefEqProofs (disch:=first|exact dz _|fail) only [AM.RGB,↓AM.R0,AM.R1,AM.R2,qA,qB,qC,qD,qE,↓reduceIte,qG,qH,qI,cl]
 have gB:(h.push (.cells 0 false [.int .i64 i.op,.int .i64 i.a,.int .i64 i.b,.int .i64 i.c,.int .u64 i.imm,lw])).get h.n=_:=AHeap.get_push_same _ _
 have gC:=(f0.get c lt (by simp)).trans g
 have hn0:h.n<(h.push (.cells 0 false [.int .i64 i.op,.int .i64 i.a,.int .i64 i.b,.int .i64 i.c,.int .u64 i.imm,lw])).n:=by simp
 generalize h.push (.cells 0 false [.int .i64 i.op,.int .i64 i.a,.int .i64 i.b,.int .i64 i.c,.int .u64 i.imm,lw])=h1 at *
 have C1:=C0.keep f0
 have n1:=f0.n
 have k1:∀ j,j<h.n→h1.get j=h.get j:=fun j hj=>f0.get j hj (by simp)
 refine AM.cI_bool (fun hb=>?_) (fun hb=>?_)
 ·simp only [decide_eq_true_eq] at hb
  simp -implicitDefEqProofs (disch:=first|exact dz _|fail) only [↓AM.R0,AM.R1,AM.R2,qA,qB,qC,qD,qE,↓reduceIte,qG,qH,qI,gB,gC]
  refine AM.trCall_of (list C1 (L.keep f0) (s5.keep f0) (by omega)) ?_
  rintro r h2 ⟨f12,rfl⟩
  simp -implicitDefEqProofs (disch:=first|exact dz _|fail) only [↓AM.R0,AM.R1,AM.R2,qA,qB,qC,qD,qE,↓reduceIte,qG,qH,qI]
  subst hQ
  exact ⟨f0.trans f12,by rw [callsF,if_pos hb]⟩
 ·simp only [decide_eq_false_iff_not] at hb
  have hm:callsF p f i=goF p f i:=if_neg hb
  rw [hm] at hQ
  clear hm
  by_cases hin:0≤i.a∧i.a<p.funcs.length
  ·have d1:decide ((p.funcs.length:Int)≤i.a)=false:=decide_eq_false (by omega)
   have d2:decide (i.a<0)=false:=decide_eq_false (by omega)
   obtain ⟨q,hq⟩:∃ t,p.funcs[i.a.toNat]?=some t:=⟨_,List.getElem?_eq_getElem (by omega)⟩
   obtain ⟨q1,q2,q3,q4⟩:=H q (List.mem_of_getElem? hq)
   obtain ⟨j,g2,off,vs,ro,row,rfl,w2,x3,x4,x5,x6,qs,qr,qc,rfl,ys,yr,yc⟩:=SlR.atv s3 hq
   have x2:=(k1 j x3).trans w2
   have hj:j≠h1.n:=by omega
   have x1:=AM.ix_sl (k:=.i64) (esz:=4) (off:=off) h1 x2 hin.1 hin.2
   have bs:=SlIn.beqv ys
   have br:=SlIn.beqv yr
   have bc:=SlR.beqv yc
   have bf:∀ a b c d e,(AVal.sl a b c d e).beq (AVal.sl a b c d e)=true:=AM.beq_sl
   have bp:∀ a b c,(AVal.ptr a b c).beq (AVal.ptr a b c)=true:=fun a b c=>by simp [AVal.beq]
   have c1:=SlIn.cellv ys
   have c2:=SlIn.cellv yr
   have c3:=SlR.cellv yc
   have ls:=ys.len
   have lr:=yr.len
   have x1p:∀ o,ixV (h1.push o) 4 (.sl j g2 off p.funcs.length 4) (.int .i64 i.a)=some (.ptr j g2 (off+i.a.toNat*4),h1.push o):=fun o=>AM.ix_sl (k:=.i64) (esz:=4) _ ((AHeap.get_push_ne _ _ hj).trans x2) hin.1 hin.2
   simp -implicitDefEqProofs (disch:=first|exact dz _|fail) only [↓AM.R0,AM.R1,AM.R2,qA,qB,qC,qD,qE,↓reduceIte,qG,qH,qI,gB,gC,l3,d1,d2,x1,x2,x5,c1,c2,c3,bs,br,bc,bf,bp,AM.sameO_some,x1p]
   have fA:=(f0.pushTmp (.cells 0 false [.int .i64 0,.nils,.nils,.nils])).setTmp (i:=h1.n) n1 (.cells 0 false [.int .i64 q.params,qs,qr,qc])
   obtain ⟨pv,sl1,PS⟩:=SlIn.upto (ys.keep fA) q1 (by omega)
   have gA:=AHeap.get_set_same (h1.push (.cells 0 false [.int .i64 0,.nils,.nils,.nils])) h1.n (.cells 0 false [.int .i64 q.params,qs,qr,qc])
   have gBA:((h1.push (.cells 0 false [.int .i64 0,.nils,.nils,.nils])).set h1.n (.cells 0 false [.int .i64 q.params,qs,qr,qc])).get h.n=_:=(AHeap.get_set_ne _ _ (by omega)).trans ((AHeap.get_push_ne _ _ (by omega)).trans gB)
   have nA:((h1.push (.cells 0 false [.int .i64 0,.nils,.nils,.nils])).set h1.n (.cells 0 false [.int .i64 q.params,qs,qr,qc])).n=h1.n+1:=by simp
   generalize ((h1.push (.cells 0 false [.int .i64 0,.nils,.nils,.nils])).set h1.n (.cells 0 false [.int .i64 q.params,qs,qr,qc]))=hA at *
   have lp:=PS.len
   have hgo:goF p f i=if i.op≠35 then (if q.results.length≠0 then 13 else if (q.slots.take q.params.toNat).any (fun k=>decide (k=2))=true then 10 else listF f.slots i.list (q.slots.take q.params.toNat)) else listF f.slots i.list (q.slots.take q.params.toNat++q.results):=by
    rw [goF,if_neg (by omega),hq]
   have lenP:(q.slots.take q.params.toNat).length≤32:=by rw [List.length_take];omega
   generalize q.slots.take q.params.toNat=ps at *
   simp -implicitDefEqProofs (disch:=first|exact dz _|fail) only [↓AM.R0,AM.R1,AM.R2,qA,qB,qC,qD,qE,↓reduceIte,qG,qH,qI,sl1,gBA]
   refine AM.cI_bool (fun hd=>?_) (fun hd=>?_)
   ·have hop:i.op≠35:=by simpa using hd
    rw [if_pos hop] at hgo
    simp -implicitDefEqProofs (disch:=first|exact dz _|fail) only [↓AM.R0,AM.R1,AM.R2,qA,qB,qC,qD,qE,↓reduceIte,qG,qH,qI,gA,lr]
    refine AM.cI_bool (fun he=>?_) (fun he=>?_)
    ·have hr0:q.results.length≠0:=by simpa using he
     simp -implicitDefEqProofs (disch:=first|exact dz _|fail) only [↓AM.R0,AM.R1,AM.R2,qA,qB,qC,qD,qE,↓reduceIte,qG,qH,qI]
     subst hQ
     exact ⟨fA,by rw [hgo,if_pos hr0]⟩
    ·have hr0:¬ q.results.length≠0:=by simp at he;simp [he]
     rw [if_neg hr0] at hgo
     simp -implicitDefEqProofs (disch:=first|exact dz _|fail) only [↓AM.R0,AM.R1,AM.R2,qA,qB,qC,qD,qE,↓reduceIte,qG,qH,qI,lp]
     refine AM.loopI_of (fun k e h'=>∃ x:Nat,k+x=ps.length∧e.val 0=.ptr c 0 0∧e.val 3=.ptr h.n 0 0∧e.val 6=pv∧e.val 57=pv∧e.val 58=.int .i64 ps.length∧e.val 59=.int .i64 x∧h'=hA∧ps.any (fun k=>decide (k=2))=(ps.drop x).any (fun k=>decide (k=2))) ps.length ?_ ?_
     ·refine ⟨0,by omega,?_,?_,?_,?_,?_,?_,rfl,by simp⟩<;>simp -implicitDefEqProofs (disch:=first|exact dz _|fail) only [↓AM.R0,AM.R1,AM.R2,qA,qB,qC,qD,qE,↓reduceIte,qG,qH,qI]<;>rfl
     ·rintro k e h' ⟨x,hk,e0,e3,e6,e57,e58,e59,hh,ha⟩
      subst hh
      simp -implicitDefEqProofs (disch:=first|exact dz _|fail) only [↓AM.R0,AM.R1,AM.R2,qA,qB,qC,qD,qE,↓reduceIte,qG,qH,qI,e57,e58,e59]
      refine AM.cI_bool (fun hx=>?_) (fun hx=>?_)
      ·simp only [decide_eq_true_eq] at hx
       obtain ⟨a,hax⟩:∃ a,ps[x]?=some a:=⟨_,List.getElem?_eq_getElem (by omega)⟩
       obtain ⟨j2,g3,off2,vs2,ro2,y1,y2,y3,y5⟩:=(PS.rd hax).ix1 (enc:=fun n=>.int .i64 n) hax .i64
       have hw1:IntKind.i64.wrap ((x:Int)+1)=((x+1:Nat):Int):=(wrap64 (by omega) (by omega)).trans (by omega)
       rw [any_drop hax] at ha
       simp -implicitDefEqProofs (disch:=first|exact dz _|fail) only [↓AM.R0,AM.R1,AM.R2,qA,qB,qC,qD,qE,↓reduceIte,qG,qH,qI,e0,e3,e6,e57,e58,e59,y1,y2,y5]
       refine AM.cI_bool (fun hy=>?_) (fun hy=>?_)
       ·simp -implicitDefEqProofs (disch:=first|exact dz _|fail) only [↓AM.R0,AM.R1,AM.R2,qA,qB,qC,qD,qE,↓reduceIte,qG,qH,qI]
        rw [hy,Bool.true_or] at ha
        subst hQ
        exact ⟨fA,by rw [hgo,if_pos ha]⟩
       ·rw [hy,Bool.false_or] at ha
        simp -implicitDefEqProofs (disch:=first|exact dz _|fail) only [↓AM.R0,AM.R1,AM.R2,qA,qB,qC,qD,qE,↓reduceIte,qG,qH,qI,e0,e3,e6,e57,e58,e59,hw1]
        exact ⟨ps.length-(x+1),by omega,x+1,by omega,rfl,ha⟩
      ·simp only [decide_eq_false_iff_not] at hx
       rw [List.drop_of_length_le (by omega),List.any_nil] at ha
       rw [if_neg (by simp [ha])] at hgo
       simp -implicitDefEqProofs (disch:=first|exact dz _|fail) only [↓AM.R0,AM.R1,AM.R2,qA,qB,qC,qD,qE,↓reduceIte,qG,qH,qI,e0,e3,e6,gBA]
       refine AM.callI_of (list (C0.keep fA) (L.keep fA) PS (by omega)) ?_
       rintro r h3 ⟨f23,rfl⟩
       simp -implicitDefEqProofs (disch:=first|exact dz _|fail) only [↓AM.R0,AM.R1,AM.R2,qA,qB,qC,qD,qE,↓reduceIte,qG,qH,qI]
       subst hQ
       exact ⟨fA.trans f23,by rw [hgo]⟩
   ·have hop:¬ i.op≠35:=by simpa using hd
    rw [if_neg hop] at hgo
    simp -implicitDefEqProofs (disch:=first|exact dz _|fail) only [↓AM.R0,AM.R1,AM.R2,qA,qB,qC,qD,qE,↓reduceIte,qG,qH,qI,gA]
    refine AM.trOp_of (SlOf.appIn (SlOf.nil (enc:=encK)) PS (fun _=>rfl) (fun _=>rfl) (by simp only [List.length_nil];omega) fun v1 h3 F3 s3' f3=>?_)
    have gA3:=(f3.get h1.n (by omega) (by simp)).trans gA
    have hA3:h1.n<h3.n:=by have:=f3.n;omega
    have fA3:=fA.trans f3
    simp -implicitDefEqProofs (disch:=first|exact dz _|fail) only [↓AM.R0,AM.R1,AM.R2,qA,qB,qC,qD,qE,↓reduceIte,qG,qH,qI,gA3]
    refine AM.trOp_of (SlOf.appIn s3' (yr.keep fA3) (fun _=>rfl) (fun _=>rfl) (by simp only [List.length_append,List.length_nil];omega) fun v2 h4 F4 s4' f4=>?_)
    have f34:=f3.trans f4
    have gB4:=(f34.get h.n (by omega) (by simp)).trans gBA
    have hn4:h.n<h4.n:=by have:=f34.n;omega
    have fA4:=HFrame.non (fA.trans f34)
    simp -implicitDefEqProofs (disch:=first|exact dz _|fail) only [↓AM.R0,AM.R1,AM.R2,qA,qB,qC,qD,qE,↓reduceIte,qG,qH,qI,gA,gA3,br,gB4]
    refine AM.callI_of (list (C0.keep fA4) (L.keep fA4) (.inl s4'.rd) (by omega)) ?_
    rintro r h5 ⟨f45,rfl⟩
    simp -implicitDefEqProofs (disch:=first|exact dz _|fail) only [↓AM.R0,AM.R1,AM.R2,qA,qB,qC,qD,qE,↓reduceIte,qG,qH,qI]
    subst hQ
    exact ⟨fA4.trans f45,by rw [hgo]⟩
  ·have hg:goF p f i=13:=if_pos (by omega)
   rcases Int.lt_or_le i.a 0 with hlt | hle
   ·have d2:decide (i.a<0)=true:=decide_eq_true (by omega)
    simp -implicitDefEqProofs (disch:=first|exact dz _|fail) only [↓AM.R0,AM.R1,AM.R2,qA,qB,qC,qD,qE,↓reduceIte,qG,qH,qI,gB,gC,l3,d2]
    subst hQ
    exact ⟨f0,by rw [hg]⟩
   ·have d1:decide ((p.funcs.length:Int)≤i.a)=true:=decide_eq_true (by omega)
    have d2:decide (i.a<0)=false:=decide_eq_false (by omega)
    simp -implicitDefEqProofs (disch:=first|exact dz _|fail) only [↓AM.R0,AM.R1,AM.R2,qA,qB,qC,qD,qE,↓reduceIte,qG,qH,qI,gB,gC,l3,d1,d2]
    subst hQ
    exact ⟨f0,by rw [hg]⟩
end Go.Proofs.Ytnbnpjhlflcjeaa.Id.V
namespace Go.Proofs.Ytnbnpjhlflcjeaa.Id.V
open Go Go.AM Go.Proofs.Ytnbnpjhlflcjeaa.AmGB
open Nat renaming reduceAdd → qA,reduceLeDiff → qB,reduceEqDiff → qC,reduceLT → qE
open Int renaming reduceToNat → qD,reduceEq → qG,reduceLT → qH,reduceLE → qI
def chanF (sl:List Int) (n:Int):Int×Int :=
 match slotK sl n with
 | none=>(0,11)
 | some k=>if k<64 then (0,10) else (k-64,0)
def oneC (sl:List Int) (d c v:Int):Int:=if d≠0∧d≠1 then 8 else if (chanF sl c).2≠0 then (chanF sl c).2 else areF sl [(v,(chanF sl c).1)]
def threes (sl:List Int):List Int→Int
 | d::c::v::r=>if oneC sl d c v≠0 then oneC sl d c v else threes sl r
 | _=>0
def chooseF (sl:List Int) (i:PIns):Int:=if i.b<0∨1<i.b∨i.list.length%3≠0 then 16 else if threes sl i.list≠0 then threes sl i.list else areF sl [(i.a,0)]
def sendF (sl:List Int) (i:PIns) (ch v:Int):Int:=if (chanF sl ch).2≠0 then (chanF sl ch).2 else if i.op=43 then areF sl [(v,(chanF sl ch).1),(i.c,0)] else areF sl [(v,(chanF sl ch).1)]
def channelsF (sl:List Int) (i:PIns):Int :=
 if orB i.op [41,44]=true then (if 16<i.imm then 16 else (chanF sl i.a).2) else if i.op=43 then sendF sl i i.b i.a else if i.op=45 then chooseF sl i else sendF sl i i.a i.b
theorem kind_top {nt:Nat} {k:Int} (h:kindF nt k=true):k<128:=by
 unfold kindF kind1 at h
 simp only [Bool.or_eq_true,Bool.and_eq_true,decide_eq_true_eq] at h
 omega
theorem channel {h:AHeap} {c:Nat} {p:PProg} {f:PFunc} {i:PIns} (C:CkR h c p f i) (H:Hs p f.slots) (n:Int) :
  CallP AP 101 [.ptr c 0 0,.int .i64 n] h fun r h'=>h'=h∧r=.tup [.int .i64 (chanF f.slots n).1,.int .i64 (chanF f.slots n).2]:=by
 refine callP (rfl:Tr.get AP 101=some A101) ?_
 generalize hQ:(fun (r:AVal) (h':AHeap)=>_)=Q
 simp -implicitDefEqProofs (disch:=first|exact dz _|fail) only [↓AM.R0,AM.R1,AM.R2,qA,qB,qC,qD,qE,↓reduceIte,qG,qH,qI]
 refine AM.callI_of (slot C n) ?_
 rintro r h2 ⟨rfl,rfl⟩
 simp -implicitDefEqProofs (disch:=first|exact dz _|fail) only [↓AM.R0,AM.R1,AM.R2,qA,qB,qC,qD,qE,↓reduceIte,qG,qH,qI]
 cases hk:slotK f.slots n with
 | none =>
  simp -implicitDefEqProofs (disch:=first|exact dz _|fail) only [↓AM.R0,AM.R1,AM.R2,qA,qB,qC,qD,qE,↓reduceIte,qG,qH,qI,Option.isSome_none]
  subst hQ
  exact ⟨rfl,by rw [chanF,hk]⟩
 | some k =>
  simp -implicitDefEqProofs (disch:=first|exact dz _|fail) only [↓AM.R0,AM.R1,AM.R2,qA,qB,qC,qD,qE,↓reduceIte,qG,qH,qI,Option.isSome_some,Option.getD_some]
  refine AM.cI_bool (fun hd=>?_) (fun hd=>?_)
  ·simp only [decide_eq_true_eq] at hd
   simp -implicitDefEqProofs (disch:=first|exact dz _|fail) only [↓AM.R0,AM.R1,AM.R2,qA,qB,qC,qD,qE,↓reduceIte,qG,qH,qI]
   subst hQ
   exact ⟨rfl,by rw [chanF,hk];simp only;rw [if_pos hd]⟩
  ·simp only [decide_eq_false_iff_not] at hd
   have:=kind_top ((H.at hk).resolve_left (by omega))
   have hw:IntKind.i64.wrap (k-64)=k-64:=wrap64 (by omega) (by omega)
   simp -implicitDefEqProofs (disch:=first|exact dz _|fail) only [↓AM.R0,AM.R1,AM.R2,qA,qB,qC,qD,qE,↓reduceIte,qG,qH,qI,hw]
   subst hQ
   exact ⟨rfl,by rw [chanF,hk];simp only;rw [if_neg hd]⟩
set_option maxHeartbeats 4000000 in
theorem choose {h:AHeap} {c:Nat} {p:PProg} {f:PFunc} {i:PIns} (C:CkR h c p f i) (H:Hs p f.slots) (hl:i.list.length≤24) {row:List AVal} (R:InsR h i row) :
  CallP AP 102 [.ptr c 0 0,.agg row] h fun r h'=>HFrame h h' [] []∧r=.int .i64 (chooseF f.slots i):=by
 obtain ⟨_,lw,rfl,L⟩:=R
 refine callP (rfl:Tr.get AP 102=some A102) ?_
 generalize hQ:(fun (r:AVal) (h':AHeap)=>_)=Q
 have cl:=SlIn.cellv L
 have ll:=L.len
 have f0:=(HFrame.refl (h:=h) (F:=[]) (by simp)).pushTmp (.cells 0 false [.int .i64 i.op,.int .i64 i.a,.int .i64 i.b,.int .i64 i.c,.int .u64 i.imm,lw])
 simp -implicitDefEqProofs (disch:=first|exact dz _|fail) only [AM.RGB,↓AM.R0,AM.R1,AM.R2,qA,qB,qC,qD,qE,↓reduceIte,qG,qH,qI,cl]
 have gB:(h.push (.cells 0 false [.int .i64 i.op,.int .i64 i.a,.int .i64 i.b,.int .i64 i.c,.int .u64 i.imm,lw])).get h.n=_:=AHeap.get_push_same _ _
 have hn0:h.n<(h.push (.cells 0 false [.int .i64 i.op,.int .i64 i.a,.int .i64 i.b,.int .i64 i.c,.int .u64 i.imm,lw])).n:=by simp
 generalize h.push (.cells 0 false [.int .i64 i.op,.int .i64 i.a,.int .i64 i.b,.int .i64 i.c,.int .u64 i.imm,lw])=h1 at *
 have C1:=C.keep f0
 have htm:(((i.list.length:Int).tmod 3=0))↔i.list.length%3=0:=by
  rw [Int.tmod_eq_emod_of_nonneg (by omega)];omega
 simp -implicitDefEqProofs (disch:=first|exact dz _|fail) only [AM.RGB,↓AM.R0,AM.R1,AM.R2,qA,qB,qC,qD,qE,↓reduceIte,qG,qH,qI,gB,ll]
 refine AM.cI_bool (fun hb=>?_) (fun hb=>?_)
 ·simp -implicitDefEqProofs (disch:=first|exact dz _|fail) only [↓AM.R0,AM.R1,AM.R2,qA,qB,qC,qD,qE,↓reduceIte,qG,qH,qI]
  simp only [Bool.or_eq_true,decide_eq_true_eq,Bool.not_eq_true',decide_eq_false_iff_not,htm] at hb
  subst hQ
  exact ⟨f0,by rw [chooseF,if_pos (by omega)]⟩
 ·simp only [Bool.or_eq_false_iff,decide_eq_false_iff_not,Bool.not_eq_false',decide_eq_true_eq,htm] at hb
  simp -implicitDefEqProofs (disch:=first|exact dz _|fail) only [↓AM.R0,AM.R1,AM.R2,qA,qB,qC,qD,qE,↓reduceIte,qG,qH,qI]
  have hch:chooseF f.slots i=if threes f.slots i.list≠0 then threes f.slots i.list else areF f.slots [(i.a,0)]:=by rw [chooseF,if_neg (by omega)]
  refine AM.loopI_of (fun k e h'=>∃ x:Nat,k+x=i.list.length∧3*x≤i.list.length∧e.val 0=.ptr c 0 0∧e.val 3=.ptr h.n 0 0∧e.val 5=.int .i64 (3*x:Nat)∧HFrame h1 h' [] []∧threes f.slots i.list=threes f.slots (i.list.drop (3*x))) i.list.length ?_ ?_
  ·refine ⟨0,by omega,by omega,?_,?_,?_,HFrame.refl (by simp),by simp⟩<;>simp -implicitDefEqProofs (disch:=first|exact dz _|fail) only [↓AM.R0,AM.R1,AM.R2,qA,qB,qC,qD,qE,↓reduceIte,qG,qH,qI]<;>rfl
  ·rintro k e h' ⟨x,hk,hx,e0,e3,e5,fr,ht⟩
   have gB':=(fr.get h.n hn0 (by simp)).trans gB
   have hn':h.n<h'.n:=by have:=fr.n;omega
   have C':=C1.keep fr
   have L':=(L.keep f0).keep fr
   simp -implicitDefEqProofs (disch:=first|exact dz _|fail) only [↓AM.R0,AM.R1,AM.R2,qA,qB,qC,qD,qE,↓reduceIte,qG,qH,qI,e0,e3,e5,gB',ll]
   refine AM.cI_bool (fun hc=>?_) (fun hc=>?_)
   ·simp only [decide_eq_true_eq] at hc
    obtain ⟨a,ha⟩:∃ a,i.list[3*x]?=some a:=⟨_,List.getElem?_eq_getElem (by omega)⟩
    obtain ⟨b,hb2⟩:∃ a,i.list[3*x+1]?=some a:=⟨_,List.getElem?_eq_getElem (by omega)⟩
    obtain ⟨d,hd⟩:∃ a,i.list[3*x+2]?=some a:=⟨_,List.getElem?_eq_getElem (by omega)⟩
    obtain ⟨j,g,off,vs,ro,x1,x2,x3,x5⟩:=(L'.rd ha).ix1 (enc:=fun n=>.int .i64 n) ha .i64
    obtain ⟨j2,g2,off2,vs2,ro2,y1,y2,y3,y5⟩:=(L'.rd hb2).ix1 (enc:=fun n=>.int .i64 n) hb2 .i64
    obtain ⟨j3,g3,off3,vs3,ro3,z1,z2,z3,z5⟩:=(L'.rd hd).ix1 (enc:=fun n=>.int .i64 n) hd .i64
    have hdr:i.list.drop (3*x)=a::b::d::i.list.drop (3*(x+1)):=by
     obtain ⟨q1,rfl⟩:=List.getElem?_eq_some_iff.1 ha
     obtain ⟨q2,rfl⟩:=List.getElem?_eq_some_iff.1 hb2
     obtain ⟨q3,rfl⟩:=List.getElem?_eq_some_iff.1 hd
     rw [List.drop_eq_getElem_cons q1,List.drop_eq_getElem_cons q2,List.drop_eq_getElem_cons q3]
     rfl
    rw [hdr] at ht
    have hw1:IntKind.i64.wrap (((3*x:Nat):Int)+1)=((3*x+1:Nat):Int):=(wrap64 (by omega) (by omega)).trans (by omega)
    have hw2:IntKind.i64.wrap (((3*x:Nat):Int)+2)=((3*x+2:Nat):Int):=(wrap64 (by omega) (by omega)).trans (by omega)
    have hw3:IntKind.i64.wrap (((3*x:Nat):Int)+3)=((3*(x+1):Nat):Int):=(wrap64 (by omega) (by omega)).trans (by omega)
    simp -implicitDefEqProofs (disch:=first|exact dz _|fail) only [AM.RGB,↓AM.R0,AM.R1,AM.R2,qA,qB,qC,qD,qE,↓reduceIte,qG,qH,qI,e0,e3,e5,gB',x1,x2,x5]
    refine AM.cI_bool (fun hd=>?_) (fun hd=>?_)
    ·simp -implicitDefEqProofs (disch:=first|exact dz _|fail) only [↓AM.R0,AM.R1,AM.R2,qA,qB,qC,qD,qE,↓reduceIte,qG,qH,qI]
     have h8:oneC f.slots a b d=8:=by rw [oneC,if_pos (by simpa using hd)]
     have h9:threes f.slots i.list=8:=by rw [ht,threes,h8];rfl
     subst hQ
     exact ⟨f0.trans fr,by rw [hch,h9];rfl⟩
    ·have hone:oneC f.slots a b d=if (chanF f.slots b).2≠0 then (chanF f.slots b).2 else areF f.slots [(d,(chanF f.slots b).1)]:=by
      rw [oneC,if_neg]
      intro hq
      rw [decide_eq_false hq.1,decide_eq_false hq.2] at hd
      cases hd
     simp -implicitDefEqProofs (disch:=first|exact dz _|fail) only [↓AM.R0,AM.R1,AM.R2,qA,qB,qC,qD,qE,↓reduceIte,qG,qH,qI,e0,e3,e5,gB',hw1,y1,y2,y5]
     refine AM.callI_of (channel C' H b) ?_
     rintro r h2 ⟨rfl,rfl⟩
     simp -implicitDefEqProofs (disch:=first|exact dz _|fail) only [↓AM.R0,AM.R1,AM.R2,qA,qB,qC,qD,qE,↓reduceIte,qG,qH,qI]
     refine AM.cI_bool (fun he=>?_) (fun he=>?_)
     ·simp -implicitDefEqProofs (disch:=first|exact dz _|fail) only [↓AM.R0,AM.R1,AM.R2,qA,qB,qC,qD,qE,↓reduceIte,qG,qH,qI]
      have he':(chanF f.slots b).2≠0:=by simpa using he
      rw [if_pos he'] at hone
      have h9:threes f.slots i.list=(chanF f.slots b).2:=by rw [ht,threes,hone,if_pos he']
      subst hQ
      exact ⟨f0.trans fr,by rw [hch,h9,if_pos he']⟩
     ·have he':¬ (chanF f.slots b).2≠0:=by simpa using he
      rw [if_neg he'] at hone
      simp -implicitDefEqProofs (disch:=first|exact dz _|fail) only [↓AM.R0,AM.R1,AM.R2,qA,qB,qC,qD,qE,↓reduceIte,qG,qH,qI,e0,e3,e5,gB',hw2,z1,z2,z5,AM.a_buildSlice,List.range,List.range.loop,List.getD_cons_zero,Nat.mod_one]
      refine AM.callI_of (are1 C' d (chanF f.slots b).1) ?_
      rintro r h3 ⟨f3,rfl⟩
      simp -implicitDefEqProofs (disch:=first|exact dz _|fail) only [↓AM.R0,AM.R1,AM.R2,qA,qB,qC,qD,qE,↓reduceIte,qG,qH,qI]
      refine AM.cI_bool (fun hf=>?_) (fun hf=>?_)
      ·have hf':areF f.slots [(d,(chanF f.slots b).1)]≠0:=by simpa using hf
       simp -implicitDefEqProofs (disch:=first|exact dz _|fail) only [↓AM.R0,AM.R1,AM.R2,qA,qB,qC,qD,qE,↓reduceIte,qG,qH,qI]
       have h9:threes f.slots i.list=areF f.slots [(d,(chanF f.slots b).1)]:=by rw [ht,threes,hone,if_pos hf']
       subst hQ
       exact ⟨(f0.trans fr).trans f3,by rw [hch,h9,if_pos hf']⟩
      ·have hf':¬ areF f.slots [(d,(chanF f.slots b).1)]≠0:=by simpa using hf
       simp -implicitDefEqProofs (disch:=first|exact dz _|fail) only [↓AM.R0,AM.R1,AM.R2,qA,qB,qC,qD,qE,↓reduceIte,qG,qH,qI,e0,e3,e5,hw3]
       rw [threes,hone,if_neg hf'] at ht
       exact ⟨i.list.length-(x+1),by omega,x+1,by omega,by omega,rfl,fr.trans f3,ht⟩
   ·simp only [decide_eq_false_iff_not] at hc
    have h9:threes f.slots i.list=0:=by rw [ht,List.drop_of_length_le (by omega)];rfl
    simp -implicitDefEqProofs (disch:=first|exact dz _|fail) only [↓AM.R0,AM.R1,AM.R2,qA,qB,qC,qD,qE,↓reduceIte,qG,qH,qI,e0,e3,gB',AM.a_buildSlice,List.range,List.range.loop,List.getD_cons_zero,Nat.mod_one]
    refine AM.callI_of (are1 C' i.a 0) ?_
    rintro r h3 ⟨f3,rfl⟩
    simp -implicitDefEqProofs (disch:=first|exact dz _|fail) only [↓AM.R0,AM.R1,AM.R2,qA,qB,qC,qD,qE,↓reduceIte,qG,qH,qI]
    subst hQ
    exact ⟨(f0.trans fr).trans f3,by rw [hch,h9,if_neg (by simp)]⟩
set_option maxHeartbeats 4000000 in
theorem channels {h:AHeap} {c:Nat} {p:PProg} {f:PFunc} {i:PIns} (C:CkR h c p f i) (H:Hs p f.slots) (hl:i.list.length≤24) {row:List AVal} (R:InsR h i row) :
  CallP AP 83 [.ptr c 0 0,.agg row] h fun r h'=>HFrame h h' [] []∧r=.int .i64 (channelsF f.slots i):=by
 have R0:=R
 obtain ⟨_,lw,rfl,L⟩:=R
 refine callP (rfl:Tr.get AP 83=some A83) ?_
 generalize hQ:(fun (r:AVal) (h':AHeap)=>_)=Q
 have cl:=SlIn.cellv L
 have f0:=(HFrame.refl (h:=h) (F:=[]) (by simp)).pushTmp (.cells 0 false [.int .i64 i.op,.int .i64 i.a,.int .i64 i.b,.int .i64 i.c,.int .u64 i.imm,lw])
 simp -implicitDefEqProofs (disch:=first|exact dz _|fail) only [AM.RGB,↓AM.R0,AM.R1,AM.R2,qA,qB,qC,qD,qE,↓reduceIte,qG,qH,qI,cl]
 have gB:(h.push (.cells 0 false [.int .i64 i.op,.int .i64 i.a,.int .i64 i.b,.int .i64 i.c,.int .u64 i.imm,lw])).get h.n=_:=AHeap.get_push_same _ _
 have hn0:h.n<(h.push (.cells 0 false [.int .i64 i.op,.int .i64 i.a,.int .i64 i.b,.int .i64 i.c,.int .u64 i.imm,lw])).n:=by simp
 generalize h.push (.cells 0 false [.int .i64 i.op,.int .i64 i.a,.int .i64 i.b,.int .i64 i.c,.int .u64 i.imm,lw])=h1 at *
 have C1:=C.keep f0
 refine cI_or (t:=17) (s:=16) (x:=i.op) (by decide) [(19,44)] (by simp -implicitDefEqProofs (disch:=first|exact dz _|fail) only [↓AM.R0,AM.R1,AM.R2,qA,qB,qC,qD,qE,↓reduceIte,qG,qH,qI]) (by simp -implicitDefEqProofs (disch:=first|exact dz _|fail) only [↓AM.R0,AM.R1,AM.R2,qA,qB,qC,qD,qE,↓reduceIte,qG,qH,qI]) (by decide) ?_
 intro e' ht hk
 have e0':Env.val e' 0=.ptr c 0 0:=(hk 0 (by decide) (by decide)).trans (by simp -implicitDefEqProofs (disch:=first|exact dz _|fail) only [↓AM.R0,AM.R1,AM.R2,qA,qB,qC,qD,qE,↓reduceIte,qG,qH,qI])
 have e3':Env.val e' 3=.ptr h.n 0 0:=(hk 3 (by decide) (by decide)).trans (by simp -implicitDefEqProofs (disch:=first|exact dz _|fail) only [↓AM.R0,AM.R1,AM.R2,qA,qB,qC,qD,qE,↓reduceIte,qG,qH,qI])
 have e5':Env.val e' 5=.int .i64 i.a:=(hk 5 (by decide) (by decide)).trans (by simp -implicitDefEqProofs (disch:=first|exact dz _|fail) only [↓AM.R0,AM.R1,AM.R2,qA,qB,qC,qD,qE,↓reduceIte,qG,qH,qI])
 have e6':Env.val e' 6=.int .i64 i.b:=(hk 6 (by decide) (by decide)).trans (by simp -implicitDefEqProofs (disch:=first|exact dz _|fail) only [↓AM.R0,AM.R1,AM.R2,qA,qB,qC,qD,qE,↓reduceIte,qG,qH,qI])
 have e16':Env.val e' 16=.int .i64 i.op:=(hk 16 (by decide) (by decide)).trans (by simp -implicitDefEqProofs (disch:=first|exact dz _|fail) only [↓AM.R0,AM.R1,AM.R2,qA,qB,qC,qD,qE,↓reduceIte,qG,qH,qI])
 clear hk
 try clear e0
 have e0:=e0'
 clear e0'
 try clear e3
 have e3:=e3'
 clear e3'
 try clear e5
 have e5:=e5'
 clear e5'
 try clear e6
 have e6:=e6'
 clear e6'
 try clear e16
 have e16:=e16'
 clear e16'
 simp -implicitDefEqProofs (disch:=first|exact dz _|fail) only [↓AM.R0,AM.R1,AM.R2,qA,qB,qC,qD,qE,↓reduceIte,qG,qH,qI,ht]
 refine AM.cI_bool (fun hb=>?_) (fun hb=>?_)
 ·have m1:orB i.op [41,44]=true:=hb
  clear hb ht
  simp -implicitDefEqProofs (disch:=first|exact dz _|fail) only [↓AM.R0,AM.R1,AM.R2,qA,qB,qC,qD,qE,↓reduceIte,qG,qH,qI,e0,e3,gB]
  refine AM.cI_bool (fun hc=>?_) (fun hc=>?_)
  ·simp -implicitDefEqProofs (disch:=first|exact dz _|fail) only [↓AM.R0,AM.R1,AM.R2,qA,qB,qC,qD,qE,↓reduceIte,qG,qH,qI]
   simp only [decide_eq_true_eq] at hc
   subst hQ
   exact ⟨f0,by rw [channelsF,if_pos m1,if_pos (by omega)]⟩
  ·simp only [decide_eq_false_iff_not] at hc
   simp -implicitDefEqProofs (disch:=first|exact dz _|fail) only [↓AM.R0,AM.R1,AM.R2,qA,qB,qC,qD,qE,↓reduceIte,qG,qH,qI,e0,e3,gB]
   refine AM.callI_of (channel C1 H i.a) ?_
   rintro r h2 ⟨rfl,rfl⟩
   simp -implicitDefEqProofs (disch:=first|exact dz _|fail) only [↓AM.R0,AM.R1,AM.R2,qA,qB,qC,qD,qE,↓reduceIte,qG,qH,qI]
   subst hQ
   exact ⟨f0,by rw [channelsF,if_pos m1,if_neg (by omega)]⟩
 have m1:orB i.op [41,44]=false:=hb
 clear hb ht
 simp -implicitDefEqProofs (disch:=first|exact dz _|fail) only [↓AM.R0,AM.R1,AM.R2,qA,qB,qC,qD,qE,↓reduceIte,qG,qH,qI,e16]
 refine AM.cI_bool (fun hop=>?_) (fun hop=>?_)
 ·have hop:i.op=43:=by simpa using hop
  have dop:decide (i.op=43)=true:=decide_eq_true hop
  have hm:channelsF f.slots i=sendF f.slots i i.b i.a:=by rw [channelsF,if_neg (by simp [m1]),if_pos hop]
  simp -implicitDefEqProofs (disch:=first|exact dz _|fail) only [↓AM.R0,AM.R1,AM.R2,qA,qB,qC,qD,qE,↓reduceIte,qG,qH,qI,e0,e3,e5,e6,gB]
  refine AM.callI_of (channel C1 H i.b) ?_
  rintro r h2 ⟨rfl,rfl⟩
  simp -implicitDefEqProofs (disch:=first|exact dz _|fail) only [↓AM.R0,AM.R1,AM.R2,qA,qB,qC,qD,qE,↓reduceIte,qG,qH,qI]
  refine AM.cI_bool (fun he=>?_) (fun he=>?_)
  ·simp -implicitDefEqProofs (disch:=first|exact dz _|fail) only [↓AM.R0,AM.R1,AM.R2,qA,qB,qC,qD,qE,↓reduceIte,qG,qH,qI]
   have he':(chanF f.slots i.b).2≠0:=by simpa using he
   subst hQ
   exact ⟨f0,by rw [hm,sendF,if_pos he']⟩
  ·have he':¬ (chanF f.slots i.b).2≠0:=by simpa using he
   simp -implicitDefEqProofs (disch:=first|exact dz _|fail) only [↓AM.R0,AM.R1,AM.R2,qA,qB,qC,qD,qE,↓reduceIte,qG,qH,qI,e0,e3,e6,gB,dop,AM.a_buildSlice,List.range,List.range.loop,List.getD_cons_zero,Nat.mod_one]
   refine AM.callI_of (are2 C1 i.a (chanF f.slots i.b).1 i.c 0) ?_
   rintro r h3 ⟨f3,rfl⟩
   simp -implicitDefEqProofs (disch:=first|exact dz _|fail) only [↓AM.R0,AM.R1,AM.R2,qA,qB,qC,qD,qE,↓reduceIte,qG,qH,qI]
   subst hQ
   exact ⟨f0.trans f3,by rw [hm,sendF,if_neg he',if_pos hop]⟩
 ·have hop:¬ i.op=43:=by simpa using hop
  have dop:decide (i.op=43)=false:=decide_eq_false hop
  simp -implicitDefEqProofs (disch:=first|exact dz _|fail) only [↓AM.R0,AM.R1,AM.R2,qA,qB,qC,qD,qE,↓reduceIte,qG,qH,qI,e16]
  refine AM.cI_bool (fun hop2=>?_) (fun hop2=>?_)
  ·have hop2:i.op=45:=by simpa using hop2
   have hm:channelsF f.slots i=chooseF f.slots i:=by rw [channelsF,if_neg (by simp [m1]),if_neg hop,if_pos hop2]
   simp -implicitDefEqProofs (disch:=first|exact dz _|fail) only [↓AM.R0,AM.R1,AM.R2,qA,qB,qC,qD,qE,↓reduceIte,qG,qH,qI,e0,e3,gB]
   refine AM.callI_of (choose C1 H hl (R0.keep f0)) ?_
   rintro r h2 ⟨f2,rfl⟩
   simp -implicitDefEqProofs (disch:=first|exact dz _|fail) only [↓AM.R0,AM.R1,AM.R2,qA,qB,qC,qD,qE,↓reduceIte,qG,qH,qI]
   subst hQ
   exact ⟨f0.trans f2,by rw [hm]⟩
  ·have hop2:¬ i.op=45:=by simpa using hop2
   have hm:channelsF f.slots i=sendF f.slots i i.a i.b:=by rw [channelsF,if_neg (by simp [m1]),if_neg hop,if_neg hop2]
   simp -implicitDefEqProofs (disch:=first|exact dz _|fail) only [↓AM.R0,AM.R1,AM.R2,qA,qB,qC,qD,qE,↓reduceIte,qG,qH,qI,e0,e3,e5,e6,gB]
   refine AM.callI_of (channel C1 H i.a) ?_
   rintro r h2 ⟨rfl,rfl⟩
   simp -implicitDefEqProofs (disch:=first|exact dz _|fail) only [↓AM.R0,AM.R1,AM.R2,qA,qB,qC,qD,qE,↓reduceIte,qG,qH,qI]
   refine AM.cI_bool (fun he=>?_) (fun he=>?_)
   ·simp -implicitDefEqProofs (disch:=first|exact dz _|fail) only [↓AM.R0,AM.R1,AM.R2,qA,qB,qC,qD,qE,↓reduceIte,qG,qH,qI]
    have he':(chanF f.slots i.a).2≠0:=by simpa using he
    subst hQ
    exact ⟨f0,by rw [hm,sendF,if_pos he']⟩
   ·have he':¬ (chanF f.slots i.a).2≠0:=by simpa using he
    simp -implicitDefEqProofs (disch:=first|exact dz _|fail) only [↓AM.R0,AM.R1,AM.R2,qA,qB,qC,qD,qE,↓reduceIte,qG,qH,qI,e0,e3,e6,gB,dop,AM.a_buildSlice,List.range,List.range.loop,List.getD_cons_zero,Nat.mod_one]
    refine AM.callI_of (are1 C1 i.b (chanF f.slots i.a).1) ?_
    rintro r h3 ⟨f3,rfl⟩
    simp -implicitDefEqProofs (disch:=first|exact dz _|fail) only [↓AM.R0,AM.R1,AM.R2,qA,qB,qC,qD,qE,↓reduceIte,qG,qH,qI]
    subst hQ
    exact ⟨f0.trans f3,by rw [hm,sendF,if_neg he',if_neg hop]⟩
end Go.Proofs.Ytnbnpjhlflcjeaa.Id.V
namespace Go.Proofs.Ytnbnpjhlflcjeaa.Id.V
open Go Go.AM Go.Proofs.Ytnbnpjhlflcjeaa.AmGB
open Nat renaming reduceAdd → qA,reduceLeDiff → qB,reduceEqDiff → qC,reduceLT → qE
open Int renaming reduceToNat → qD,reduceEq → qG,reduceLT → qH,reduceLE → qI
def bodyF (p:PProg) (f:PFunc) (i:PIns):Int :=
 if orB i.op [1,48]=true then alikeF f.slots (fun k=>decide (k=0)||decide (k=1)) [i.a] else
 if orB i.op [2]=true then alikeF f.slots (fun _=>true) [i.a,i.b] else
 if orB i.op [3,4,5,6,7,8,9,10,11,12,13,14]=true then areF f.slots [(i.a,0),(i.b,0),(i.c,0)] else
 if orB i.op [15,16,17,18]=true then areF f.slots [(i.a,1),(i.b,1),(i.c,1)] else
 if orB i.op [19,20]=true then areF f.slots [(i.a,0),(i.b,1),(i.c,1)] else
 if orB i.op [21]=true then areF f.slots [(i.a,1),(i.b,0)] else
 if orB i.op [22,40]=true then (if i.op=40 then areF f.slots [(i.a,0),(i.b,0)] else areF f.slots [(i.a,0),(i.b,1)]) else
 if orB i.op [23]=true then (if areF f.slots [(i.a,0)]≠0 then areF f.slots [(i.a,0)] else alikeF f.slots (fun k=>decide (16≤k)) [i.b,i.c]) else
 if orB i.op [24,25]=true then jumpF f i else
 if orB i.op [39,46,52]=true then areF f.slots [(i.a,0)] else
 if orB i.op [47]=true then 0 else
 if orB i.op [49,51]=true then areF f.slots [(i.a,2),(i.b,0)] else
 if orB i.op [50]=true then areF f.slots [(i.a,0),(i.b,2)] else
 if orB i.op [26,27,28,29,30,31,32,33,34]=true then memF p f.slots i else
 if orB i.op [35,36,37,38]=true then callsF p f i else
 channelsF f.slots i
def insF (p:PProg) (f:PFunc) (i:PIns):Int:=if i.op<1∨52<i.op then 9 else if formF i≠0 then formF i else bodyF p f i
theorem formF_len {i:PIns} (h:¬ formF i≠0):i.list.length≤24:=by
 rcases Nat.lt_or_ge 24 i.list.length with hl | hl
 ·exact absurd (by unfold formF;split<;>simp [hl]) h
 ·exact hl
set_option maxHeartbeats 8000000 in
theorem one {h:AHeap} {c:Nat} {p:PProg} {f:PFunc} {i:PIns} (C:CkR h c p f i) (H:Hs p f.slots) (T:Ht p) (hT:p.types.length≤32) (HP:Hp p) :
  CallP AP 56 [.ptr c 0 0] h fun r h'=>HFrame h h' [] []∧r=.int .i64 (insF p f i):=by
 refine callP (rfl:Tr.get AP 56=some A56) ?_
 generalize hQ:(fun (r:AVal) (h':AHeap)=>_)=Q
 have C0:=C
 obtain ⟨tv,gv,fv,sv,rv,cv,at_,lv,g,lt,s1,s2,s3,s4,s5,s6,hi,s7⟩:=C
 have cl:=SlIn.cellv s7
 simp -implicitDefEqProofs (disch:=first|exact dz _|fail) only [AM.RGB,↓AM.R0,AM.R1,AM.R2,qA,qB,qC,qD,qE,↓reduceIte,qG,qH,qI,g]
 refine AM.cI_bool (fun hb=>?_) (fun hb=>?_)
 ·simp -implicitDefEqProofs (disch:=first|exact dz _|fail) only [↓AM.R0,AM.R1,AM.R2,qA,qB,qC,qD,qE,↓reduceIte,qG,qH,qI]
  simp only [Bool.or_eq_true,decide_eq_true_eq] at hb
  subst hQ
  exact ⟨HFrame.refl (by simp),by rw [insF,if_pos hb]⟩
 simp only [Bool.or_eq_false_iff,decide_eq_false_iff_not] at hb
 simp -implicitDefEqProofs (disch:=first|exact dz _|fail) only [↓AM.R0,AM.R1,AM.R2,qA,qB,qC,qD,qE,↓reduceIte,qG,qH,qI,g]
 refine AM.callI_of (shape i.op h) ?_
 rintro r h1 ⟨rfl,rfl⟩
 simp -implicitDefEqProofs (disch:=first|exact dz _|fail) only [↓AM.R0,AM.R1,AM.R2,qA,qB,qC,qD,qE,↓reduceIte,qG,qH,qI]
 refine AM.callI_of (plain C0) ?_
 rintro r h1 ⟨f1,rfl⟩
 simp -implicitDefEqProofs (disch:=first|exact dz _|fail) only [↓AM.R0,AM.R1,AM.R2,qA,qB,qC,qD,qE,↓reduceIte,qG,qH,qI]
 refine AM.cI_bool (fun hc=>?_) (fun hc=>?_)
 ·have hc':formF i≠0:=by simpa using hc
  simp -implicitDefEqProofs (disch:=first|exact dz _|fail) only [↓AM.R0,AM.R1,AM.R2,qA,qB,qC,qD,qE,↓reduceIte,qG,qH,qI]
  subst hQ
  exact ⟨f1,by rw [insF,if_neg (by omega),if_pos hc']⟩
 have hc':¬ formF i≠0:=by simpa using hc
 have hl:=formF_len hc'
 have hm:insF p f i=bodyF p f i:=by rw [insF,if_neg (by omega),if_neg hc']
 rw [hm] at hQ
 have g1:=(f1.get c lt (by simp)).trans g
 have lt1:c<h1.n:=by have:=f1.n;omega
 simp -implicitDefEqProofs (disch:=first|exact dz _|fail) only [↓AM.R0,AM.R1,AM.R2,qA,qB,qC,qD,qE,↓reduceIte,qG,qH,qI,g1,cl]
 have fT:=(f1.pushTmp (.cells 0 false [.int .i64 0,.int .i64 0,.int .i64 0,.int .i64 0,.int .u64 0,.nils])).setTmp (i:=h1.n) f1.n (.cells 0 false [.int .i64 i.op,.int .i64 i.a,.int .i64 i.b,.int .i64 i.c,.int .u64 i.imm,lv])
 have gB:=AHeap.get_set_same (h1.push (.cells 0 false [.int .i64 0,.int .i64 0,.int .i64 0,.int .i64 0,.int .u64 0,.nils])) h1.n (.cells 0 false [.int .i64 i.op,.int .i64 i.a,.int .i64 i.b,.int .i64 i.c,.int .u64 i.imm,lv])
 have hn0:h1.n<((h1.push (.cells 0 false [.int .i64 0,.int .i64 0,.int .i64 0,.int .i64 0,.int .u64 0,.nils])).set h1.n (.cells 0 false [.int .i64 i.op,.int .i64 i.a,.int .i64 i.b,.int .i64 i.c,.int .u64 i.imm,lv])).n:=by simp
 generalize ((h1.push (.cells 0 false [.int .i64 0,.int .i64 0,.int .i64 0,.int .i64 0,.int .u64 0,.nils])).set h1.n (.cells 0 false [.int .i64 i.op,.int .i64 i.a,.int .i64 i.b,.int .i64 i.c,.int .u64 i.imm,lv]))=hT2 at *
 have C2:=C0.keep fT
 have R2:InsR hT2 i [.int .i64 i.op,.int .i64 i.a,.int .i64 i.b,.int .i64 i.c,.int .u64 i.imm,lv]:=⟨hi,lv,rfl,s7.keep fT⟩
 obtain ⟨X,hX⟩:∃ X,X=bodyF p f i:=⟨_,rfl⟩
 rw [←hX] at hQ
 rw [bodyF] at hX
 refine cI_or (t:=40) (s:=39) (x:=i.op) (by decide) [(42,48)] (by simp -implicitDefEqProofs (disch:=first|exact dz _|fail) only [↓AM.R0,AM.R1,AM.R2,qA,qB,qC,qD,qE,↓reduceIte,qG,qH,qI,gB]) (by simp -implicitDefEqProofs (disch:=first|exact dz _|fail) only [↓AM.R0,AM.R1,AM.R2,qA,qB,qC,qD,qE,↓reduceIte,qG,qH,qI,gB]) (by decide) ?_
 intro e' ht hk
 have e0':Env.val e' 0=.ptr c 0 0:=(hk 0 (by decide) (by decide)).trans (by simp -implicitDefEqProofs (disch:=first|exact dz _|fail) only [↓AM.R0,AM.R1,AM.R2,qA,qB,qC,qD,qE,↓reduceIte,qG,qH,qI,gB])
 have e4':Env.val e' 4=.ptr h1.n 0 0:=(hk 4 (by decide) (by decide)).trans (by simp -implicitDefEqProofs (disch:=first|exact dz _|fail) only [↓AM.R0,AM.R1,AM.R2,qA,qB,qC,qD,qE,↓reduceIte,qG,qH,qI,gB])
 have e39':Env.val e' 39=.int .i64 i.op:=(hk 39 (by decide) (by decide)).trans (by simp -implicitDefEqProofs (disch:=first|exact dz _|fail) only [↓AM.R0,AM.R1,AM.R2,qA,qB,qC,qD,qE,↓reduceIte,qG,qH,qI,gB])
 clear hk
 try clear e0
 have e0:=e0'
 clear e0'
 try clear e4
 have e4:=e4'
 clear e4'
 try clear e39
 have e39:=e39'
 clear e39'
 simp -implicitDefEqProofs (disch:=first|exact dz _|fail) only [↓AM.R0,AM.R1,AM.R2,qA,qB,qC,qD,qE,↓reduceIte,qG,qH,qI,ht]
 refine AM.cI_bool (fun hb=>?_) (fun hb=>?_)
 ·have m:orB i.op [1,48]=true:=hb
  clear hb
  rw [if_pos m] at hX
  simp -implicitDefEqProofs (disch:=first|exact dz _|fail) only [↓AM.R0,AM.R1,AM.R2,qA,qB,qC,qD,qE,↓reduceIte,qG,qH,qI,e0,e4,gB,AM.a_buildSlice,List.range,List.range.loop,List.getD_cons_zero,Nat.mod_one]
  refine AM.callI_of (alike1 C2 _ _ 77 rfl number i.a) ?_
  rintro r h3 ⟨f3,rfl⟩
  simp -implicitDefEqProofs (disch:=first|exact dz _|fail) only [↓AM.R0,AM.R1,AM.R2,qA,qB,qC,qD,qE,↓reduceIte,qG,qH,qI]
  subst hQ
  exact ⟨fT.trans f3,by rw [hX]⟩
 have m:orB i.op [1,48]=false:=hb
 clear hb
 rw [if_neg (by simp [m])] at hX
 clear m
 clear ht
 simp -implicitDefEqProofs (disch:=first|exact dz _|fail) only [↓AM.R0,AM.R1,AM.R2,qA,qB,qC,qD,qE,↓reduceIte,qG,qH,qI,e0,e4,e39]
 refine AM.cI_bool (fun hb=>?_) (fun hb=>?_)
 ·have m:orB i.op [2]=true:=(Bool.or_false _).trans hb
  clear hb
  rw [if_pos m] at hX
  simp -implicitDefEqProofs (disch:=first|exact dz _|fail) only [↓AM.R0,AM.R1,AM.R2,qA,qB,qC,qD,qE,↓reduceIte,qG,qH,qI,e0,e4,gB,AM.a_buildSlice,List.range,List.range.loop,List.getD_cons_zero,Nat.mod_one]
  refine AM.callI_of (alike2 C2 _ _ 78 rfl any i.a i.b) ?_
  rintro r h3 ⟨f3,rfl⟩
  simp -implicitDefEqProofs (disch:=first|exact dz _|fail) only [↓AM.R0,AM.R1,AM.R2,qA,qB,qC,qD,qE,↓reduceIte,qG,qH,qI]
  subst hQ
  exact ⟨fT.trans f3,by rw [hX]⟩
 have m:orB i.op [2]=false:=(Bool.or_false _).trans hb
 clear hb
 rw [if_neg (by simp [m])] at hX
 clear m
 simp -implicitDefEqProofs (disch:=first|exact dz _|fail) only [↓AM.R0,AM.R1,AM.R2,qA,qB,qC,qD,qE,↓reduceIte,qG,qH,qI,e0,e4,e39]
 refine cI_or (t:=57) (s:=39) (x:=i.op) (by decide) [(59,4),(60,5),(61,6),(62,7),(63,8),(64,9),(65,10),(66,11),(67,12),(68,13),(69,14)] (by simp -implicitDefEqProofs (disch:=first|exact dz _|fail) only [↓AM.R0,AM.R1,AM.R2,qA,qB,qC,qD,qE,↓reduceIte,qG,qH,qI,e0,e4,e39,gB]) (by simp -implicitDefEqProofs (disch:=first|exact dz _|fail) only [↓AM.R0,AM.R1,AM.R2,qA,qB,qC,qD,qE,↓reduceIte,qG,qH,qI,e0,e4,e39,gB]) (by decide) ?_
 intro e' ht hk
 have e0':Env.val e' 0=.ptr c 0 0:=(hk 0 (by decide) (by decide)).trans (by simp -implicitDefEqProofs (disch:=first|exact dz _|fail) only [↓AM.R0,AM.R1,AM.R2,qA,qB,qC,qD,qE,↓reduceIte,qG,qH,qI,e0,e4,e39,gB])
 have e4':Env.val e' 4=.ptr h1.n 0 0:=(hk 4 (by decide) (by decide)).trans (by simp -implicitDefEqProofs (disch:=first|exact dz _|fail) only [↓AM.R0,AM.R1,AM.R2,qA,qB,qC,qD,qE,↓reduceIte,qG,qH,qI,e0,e4,e39,gB])
 have e39':Env.val e' 39=.int .i64 i.op:=(hk 39 (by decide) (by decide)).trans (by simp -implicitDefEqProofs (disch:=first|exact dz _|fail) only [↓AM.R0,AM.R1,AM.R2,qA,qB,qC,qD,qE,↓reduceIte,qG,qH,qI,e0,e4,e39,gB])
 clear hk
 try clear e0
 have e0:=e0'
 clear e0'
 try clear e4
 have e4:=e4'
 clear e4'
 try clear e39
 have e39:=e39'
 clear e39'
 simp -implicitDefEqProofs (disch:=first|exact dz _|fail) only [↓AM.R0,AM.R1,AM.R2,qA,qB,qC,qD,qE,↓reduceIte,qG,qH,qI,ht]
 refine AM.cI_bool (fun hb=>?_) (fun hb=>?_)
 ·have m:orB i.op [3,4,5,6,7,8,9,10,11,12,13,14]=true:=hb
  clear hb
  rw [if_pos m] at hX
  simp -implicitDefEqProofs (disch:=first|exact dz _|fail) only [↓AM.R0,AM.R1,AM.R2,qA,qB,qC,qD,qE,↓reduceIte,qG,qH,qI,e0,e4,gB,AM.a_buildSlice,List.range,List.range.loop,List.getD_cons_zero,Nat.mod_one]
  refine AM.callI_of (are3 C2 i.a 0 i.b 0 i.c 0) ?_
  rintro r h3 ⟨f3,rfl⟩
  simp -implicitDefEqProofs (disch:=first|exact dz _|fail) only [↓AM.R0,AM.R1,AM.R2,qA,qB,qC,qD,qE,↓reduceIte,qG,qH,qI]
  subst hQ
  exact ⟨fT.trans f3,by rw [hX]⟩
 have m:orB i.op [3,4,5,6,7,8,9,10,11,12,13,14]=false:=hb
 clear hb
 rw [if_neg (by simp [m])] at hX
 clear m
 clear ht
 simp -implicitDefEqProofs (disch:=first|exact dz _|fail) only [↓AM.R0,AM.R1,AM.R2,qA,qB,qC,qD,qE,↓reduceIte,qG,qH,qI,e0,e4,e39]
 refine cI_or (t:=79) (s:=39) (x:=i.op) (by decide) [(81,16),(82,17),(83,18)] (by simp -implicitDefEqProofs (disch:=first|exact dz _|fail) only [↓AM.R0,AM.R1,AM.R2,qA,qB,qC,qD,qE,↓reduceIte,qG,qH,qI,e0,e4,e39,gB]) (by simp -implicitDefEqProofs (disch:=first|exact dz _|fail) only [↓AM.R0,AM.R1,AM.R2,qA,qB,qC,qD,qE,↓reduceIte,qG,qH,qI,e0,e4,e39,gB]) (by decide) ?_
 intro e' ht hk
 have e0':Env.val e' 0=.ptr c 0 0:=(hk 0 (by decide) (by decide)).trans (by simp -implicitDefEqProofs (disch:=first|exact dz _|fail) only [↓AM.R0,AM.R1,AM.R2,qA,qB,qC,qD,qE,↓reduceIte,qG,qH,qI,e0,e4,e39,gB])
 have e4':Env.val e' 4=.ptr h1.n 0 0:=(hk 4 (by decide) (by decide)).trans (by simp -implicitDefEqProofs (disch:=first|exact dz _|fail) only [↓AM.R0,AM.R1,AM.R2,qA,qB,qC,qD,qE,↓reduceIte,qG,qH,qI,e0,e4,e39,gB])
 have e39':Env.val e' 39=.int .i64 i.op:=(hk 39 (by decide) (by decide)).trans (by simp -implicitDefEqProofs (disch:=first|exact dz _|fail) only [↓AM.R0,AM.R1,AM.R2,qA,qB,qC,qD,qE,↓reduceIte,qG,qH,qI,e0,e4,e39,gB])
 clear hk
 try clear e0
 have e0:=e0'
 clear e0'
 try clear e4
 have e4:=e4'
 clear e4'
 try clear e39
 have e39:=e39'
 clear e39'
 simp -implicitDefEqProofs (disch:=first|exact dz _|fail) only [↓AM.R0,AM.R1,AM.R2,qA,qB,qC,qD,qE,↓reduceIte,qG,qH,qI,ht]
 refine AM.cI_bool (fun hb=>?_) (fun hb=>?_)
 ·have m:orB i.op [15,16,17,18]=true:=hb
  clear hb
  rw [if_pos m] at hX
  simp -implicitDefEqProofs (disch:=first|exact dz _|fail) only [↓AM.R0,AM.R1,AM.R2,qA,qB,qC,qD,qE,↓reduceIte,qG,qH,qI,e0,e4,gB,AM.a_buildSlice,List.range,List.range.loop,List.getD_cons_zero,Nat.mod_one]
  refine AM.callI_of (are3 C2 i.a 1 i.b 1 i.c 1) ?_
  rintro r h3 ⟨f3,rfl⟩
  simp -implicitDefEqProofs (disch:=first|exact dz _|fail) only [↓AM.R0,AM.R1,AM.R2,qA,qB,qC,qD,qE,↓reduceIte,qG,qH,qI]
  subst hQ
  exact ⟨fT.trans f3,by rw [hX]⟩
 have m:orB i.op [15,16,17,18]=false:=hb
 clear hb
 rw [if_neg (by simp [m])] at hX
 clear m
 clear ht
 simp -implicitDefEqProofs (disch:=first|exact dz _|fail) only [↓AM.R0,AM.R1,AM.R2,qA,qB,qC,qD,qE,↓reduceIte,qG,qH,qI,e0,e4,e39]
 refine cI_or (t:=93) (s:=39) (x:=i.op) (by decide) [(95,20)] (by simp -implicitDefEqProofs (disch:=first|exact dz _|fail) only [↓AM.R0,AM.R1,AM.R2,qA,qB,qC,qD,qE,↓reduceIte,qG,qH,qI,e0,e4,e39,gB]) (by simp -implicitDefEqProofs (disch:=first|exact dz _|fail) only [↓AM.R0,AM.R1,AM.R2,qA,qB,qC,qD,qE,↓reduceIte,qG,qH,qI,e0,e4,e39,gB]) (by decide) ?_
 intro e' ht hk
 have e0':Env.val e' 0=.ptr c 0 0:=(hk 0 (by decide) (by decide)).trans (by simp -implicitDefEqProofs (disch:=first|exact dz _|fail) only [↓AM.R0,AM.R1,AM.R2,qA,qB,qC,qD,qE,↓reduceIte,qG,qH,qI,e0,e4,e39,gB])
 have e4':Env.val e' 4=.ptr h1.n 0 0:=(hk 4 (by decide) (by decide)).trans (by simp -implicitDefEqProofs (disch:=first|exact dz _|fail) only [↓AM.R0,AM.R1,AM.R2,qA,qB,qC,qD,qE,↓reduceIte,qG,qH,qI,e0,e4,e39,gB])
 have e39':Env.val e' 39=.int .i64 i.op:=(hk 39 (by decide) (by decide)).trans (by simp -implicitDefEqProofs (disch:=first|exact dz _|fail) only [↓AM.R0,AM.R1,AM.R2,qA,qB,qC,qD,qE,↓reduceIte,qG,qH,qI,e0,e4,e39,gB])
 clear hk
 try clear e0
 have e0:=e0'
 clear e0'
 try clear e4
 have e4:=e4'
 clear e4'
 try clear e39
 have e39:=e39'
 clear e39'
 simp -implicitDefEqProofs (disch:=first|exact dz _|fail) only [↓AM.R0,AM.R1,AM.R2,qA,qB,qC,qD,qE,↓reduceIte,qG,qH,qI,ht]
 refine AM.cI_bool (fun hb=>?_) (fun hb=>?_)
 ·have m:orB i.op [19,20]=true:=hb
  clear hb
  rw [if_pos m] at hX
  simp -implicitDefEqProofs (disch:=first|exact dz _|fail) only [↓AM.R0,AM.R1,AM.R2,qA,qB,qC,qD,qE,↓reduceIte,qG,qH,qI,e0,e4,gB,AM.a_buildSlice,List.range,List.range.loop,List.getD_cons_zero,Nat.mod_one]
  refine AM.callI_of (are3 C2 i.a 0 i.b 1 i.c 1) ?_
  rintro r h3 ⟨f3,rfl⟩
  simp -implicitDefEqProofs (disch:=first|exact dz _|fail) only [↓AM.R0,AM.R1,AM.R2,qA,qB,qC,qD,qE,↓reduceIte,qG,qH,qI]
  subst hQ
  exact ⟨fT.trans f3,by rw [hX]⟩
 have m:orB i.op [19,20]=false:=hb
 clear hb
 rw [if_neg (by simp [m])] at hX
 clear m
 clear ht
 simp -implicitDefEqProofs (disch:=first|exact dz _|fail) only [↓AM.R0,AM.R1,AM.R2,qA,qB,qC,qD,qE,↓reduceIte,qG,qH,qI,e0,e4,e39]
 refine AM.cI_bool (fun hb=>?_) (fun hb=>?_)
 ·have m:orB i.op [21]=true:=(Bool.or_false _).trans hb
  clear hb
  rw [if_pos m] at hX
  simp -implicitDefEqProofs (disch:=first|exact dz _|fail) only [↓AM.R0,AM.R1,AM.R2,qA,qB,qC,qD,qE,↓reduceIte,qG,qH,qI,e0,e4,gB,AM.a_buildSlice,List.range,List.range.loop,List.getD_cons_zero,Nat.mod_one]
  refine AM.callI_of (are2 C2 i.a 1 i.b 0) ?_
  rintro r h3 ⟨f3,rfl⟩
  simp -implicitDefEqProofs (disch:=first|exact dz _|fail) only [↓AM.R0,AM.R1,AM.R2,qA,qB,qC,qD,qE,↓reduceIte,qG,qH,qI]
  subst hQ
  exact ⟨fT.trans f3,by rw [hX]⟩
 have m:orB i.op [21]=false:=(Bool.or_false _).trans hb
 clear hb
 rw [if_neg (by simp [m])] at hX
 clear m
 simp -implicitDefEqProofs (disch:=first|exact dz _|fail) only [↓AM.R0,AM.R1,AM.R2,qA,qB,qC,qD,qE,↓reduceIte,qG,qH,qI,e0,e4,e39]
 refine cI_or (t:=114) (s:=39) (x:=i.op) (by decide) [(116,40)] (by simp -implicitDefEqProofs (disch:=first|exact dz _|fail) only [↓AM.R0,AM.R1,AM.R2,qA,qB,qC,qD,qE,↓reduceIte,qG,qH,qI,e0,e4,e39,gB]) (by simp -implicitDefEqProofs (disch:=first|exact dz _|fail) only [↓AM.R0,AM.R1,AM.R2,qA,qB,qC,qD,qE,↓reduceIte,qG,qH,qI,e0,e4,e39,gB]) (by decide) ?_
 intro e' ht hk
 have e0':Env.val e' 0=.ptr c 0 0:=(hk 0 (by decide) (by decide)).trans (by simp -implicitDefEqProofs (disch:=first|exact dz _|fail) only [↓AM.R0,AM.R1,AM.R2,qA,qB,qC,qD,qE,↓reduceIte,qG,qH,qI,e0,e4,e39,gB])
 have e4':Env.val e' 4=.ptr h1.n 0 0:=(hk 4 (by decide) (by decide)).trans (by simp -implicitDefEqProofs (disch:=first|exact dz _|fail) only [↓AM.R0,AM.R1,AM.R2,qA,qB,qC,qD,qE,↓reduceIte,qG,qH,qI,e0,e4,e39,gB])
 have e39':Env.val e' 39=.int .i64 i.op:=(hk 39 (by decide) (by decide)).trans (by simp -implicitDefEqProofs (disch:=first|exact dz _|fail) only [↓AM.R0,AM.R1,AM.R2,qA,qB,qC,qD,qE,↓reduceIte,qG,qH,qI,e0,e4,e39,gB])
 clear hk
 try clear e0
 have e0:=e0'
 clear e0'
 try clear e4
 have e4:=e4'
 clear e4'
 try clear e39
 have e39:=e39'
 clear e39'
 simp -implicitDefEqProofs (disch:=first|exact dz _|fail) only [↓AM.R0,AM.R1,AM.R2,qA,qB,qC,qD,qE,↓reduceIte,qG,qH,qI,ht]
 refine AM.cI_bool (fun hb=>?_) (fun hb=>?_)
 ·have m:orB i.op [22,40]=true:=hb
  clear hb
  rw [if_pos m] at hX
  simp -implicitDefEqProofs (disch:=first|exact dz _|fail) only [↓AM.R0,AM.R1,AM.R2,qA,qB,qC,qD,qE,↓reduceIte,qG,qH,qI,e0,e4,gB]
  refine AM.cI_bool (fun hd=>?_) (fun hd=>?_)
  ·simp only [decide_eq_true_eq] at hd
   rw [if_pos hd] at hX
   simp -implicitDefEqProofs (disch:=first|exact dz _|fail) only [↓AM.R0,AM.R1,AM.R2,qA,qB,qC,qD,qE,↓reduceIte,qG,qH,qI,e0,e4,gB,AM.a_buildSlice,List.range,List.range.loop,List.getD_cons_zero,Nat.mod_one]
   refine AM.callI_of (are2 C2 i.a 0 i.b 0) ?_
   rintro r h3 ⟨f3,rfl⟩
   simp -implicitDefEqProofs (disch:=first|exact dz _|fail) only [↓AM.R0,AM.R1,AM.R2,qA,qB,qC,qD,qE,↓reduceIte,qG,qH,qI]
   subst hQ
   exact ⟨fT.trans f3,by rw [hX]⟩
  ·simp only [decide_eq_false_iff_not] at hd
   rw [if_neg hd] at hX
   simp -implicitDefEqProofs (disch:=first|exact dz _|fail) only [↓AM.R0,AM.R1,AM.R2,qA,qB,qC,qD,qE,↓reduceIte,qG,qH,qI,e0,e4,gB,AM.a_buildSlice,List.range,List.range.loop,List.getD_cons_zero,Nat.mod_one]
   refine AM.callI_of (are2 C2 i.a 0 i.b 1) ?_
   rintro r h3 ⟨f3,rfl⟩
   simp -implicitDefEqProofs (disch:=first|exact dz _|fail) only [↓AM.R0,AM.R1,AM.R2,qA,qB,qC,qD,qE,↓reduceIte,qG,qH,qI]
   subst hQ
   exact ⟨fT.trans f3,by rw [hX]⟩
 have m:orB i.op [22,40]=false:=hb
 clear hb
 rw [if_neg (by simp [m])] at hX
 clear m
 clear ht
 simp -implicitDefEqProofs (disch:=first|exact dz _|fail) only [↓AM.R0,AM.R1,AM.R2,qA,qB,qC,qD,qE,↓reduceIte,qG,qH,qI,e0,e4,e39]
 refine AM.cI_bool (fun hb=>?_) (fun hb=>?_)
 ·have m:orB i.op [23]=true:=(Bool.or_false _).trans hb
  clear hb
  rw [if_pos m] at hX
  simp -implicitDefEqProofs (disch:=first|exact dz _|fail) only [↓AM.R0,AM.R1,AM.R2,qA,qB,qC,qD,qE,↓reduceIte,qG,qH,qI,e0,e4,gB,AM.a_buildSlice,List.range,List.range.loop,List.getD_cons_zero,Nat.mod_one]
  refine AM.callI_of (are1 C2 i.a 0) ?_
  rintro r h3 ⟨f3,rfl⟩
  have gB3:=(f3.get h1.n hn0 (by simp)).trans gB
  have hn3:h1.n<h3.n:=by have:=f3.n;omega
  simp -implicitDefEqProofs (disch:=first|exact dz _|fail) only [↓AM.R0,AM.R1,AM.R2,qA,qB,qC,qD,qE,↓reduceIte,qG,qH,qI]
  refine AM.cI_bool (fun hd=>?_) (fun hd=>?_)
  ·have hd':areF f.slots [(i.a,0)]≠0:=by simpa using hd
   rw [if_pos hd'] at hX
   simp -implicitDefEqProofs (disch:=first|exact dz _|fail) only [↓AM.R0,AM.R1,AM.R2,qA,qB,qC,qD,qE,↓reduceIte,qG,qH,qI]
   subst hQ
   exact ⟨fT.trans f3,by rw [hX]⟩
  ·have hd':¬ areF f.slots [(i.a,0)]≠0:=by simpa using hd
   rw [if_neg hd'] at hX
   simp -implicitDefEqProofs (disch:=first|exact dz _|fail) only [↓AM.R0,AM.R1,AM.R2,qA,qB,qC,qD,qE,↓reduceIte,qG,qH,qI,e0,e4,gB3,AM.a_buildSlice,List.range,List.range.loop,List.getD_cons_zero,Nat.mod_one]
   refine AM.callI_of (alike2 (C2.keep f3) _ _ 50 rfl isRef i.b i.c) ?_
   rintro r h4 ⟨f4,rfl⟩
   simp -implicitDefEqProofs (disch:=first|exact dz _|fail) only [↓AM.R0,AM.R1,AM.R2,qA,qB,qC,qD,qE,↓reduceIte,qG,qH,qI]
   subst hQ
   exact ⟨(fT.trans f3).trans f4,by rw [hX]⟩
 have m:orB i.op [23]=false:=(Bool.or_false _).trans hb
 clear hb
 rw [if_neg (by simp [m])] at hX
 clear m
 simp -implicitDefEqProofs (disch:=first|exact dz _|fail) only [↓AM.R0,AM.R1,AM.R2,qA,qB,qC,qD,qE,↓reduceIte,qG,qH,qI,e0,e4,e39]
 refine cI_or (t:=151) (s:=39) (x:=i.op) (by decide) [(153,25)] (by simp -implicitDefEqProofs (disch:=first|exact dz _|fail) only [↓AM.R0,AM.R1,AM.R2,qA,qB,qC,qD,qE,↓reduceIte,qG,qH,qI,e0,e4,e39,gB]) (by simp -implicitDefEqProofs (disch:=first|exact dz _|fail) only [↓AM.R0,AM.R1,AM.R2,qA,qB,qC,qD,qE,↓reduceIte,qG,qH,qI,e0,e4,e39,gB]) (by decide) ?_
 intro e' ht hk
 have e0':Env.val e' 0=.ptr c 0 0:=(hk 0 (by decide) (by decide)).trans (by simp -implicitDefEqProofs (disch:=first|exact dz _|fail) only [↓AM.R0,AM.R1,AM.R2,qA,qB,qC,qD,qE,↓reduceIte,qG,qH,qI,e0,e4,e39,gB])
 have e4':Env.val e' 4=.ptr h1.n 0 0:=(hk 4 (by decide) (by decide)).trans (by simp -implicitDefEqProofs (disch:=first|exact dz _|fail) only [↓AM.R0,AM.R1,AM.R2,qA,qB,qC,qD,qE,↓reduceIte,qG,qH,qI,e0,e4,e39,gB])
 have e39':Env.val e' 39=.int .i64 i.op:=(hk 39 (by decide) (by decide)).trans (by simp -implicitDefEqProofs (disch:=first|exact dz _|fail) only [↓AM.R0,AM.R1,AM.R2,qA,qB,qC,qD,qE,↓reduceIte,qG,qH,qI,e0,e4,e39,gB])
 clear hk
 try clear e0
 have e0:=e0'
 clear e0'
 try clear e4
 have e4:=e4'
 clear e4'
 try clear e39
 have e39:=e39'
 clear e39'
 simp -implicitDefEqProofs (disch:=first|exact dz _|fail) only [↓AM.R0,AM.R1,AM.R2,qA,qB,qC,qD,qE,↓reduceIte,qG,qH,qI,ht]
 refine AM.cI_bool (fun hb=>?_) (fun hb=>?_)
 ·have m:orB i.op [24,25]=true:=hb
  clear hb
  rw [if_pos m] at hX
  simp -implicitDefEqProofs (disch:=first|exact dz _|fail) only [↓AM.R0,AM.R1,AM.R2,qA,qB,qC,qD,qE,↓reduceIte,qG,qH,qI,e0,e4,gB,AM.a_buildSlice,List.range,List.range.loop,List.getD_cons_zero,Nat.mod_one]
  refine AM.callI_of (jump C2 R2) ?_
  rintro r h3 ⟨f3,rfl⟩
  simp -implicitDefEqProofs (disch:=first|exact dz _|fail) only [↓AM.R0,AM.R1,AM.R2,qA,qB,qC,qD,qE,↓reduceIte,qG,qH,qI]
  subst hQ
  exact ⟨fT.trans f3,by rw [hX]⟩
 have m:orB i.op [24,25]=false:=hb
 clear hb
 rw [if_neg (by simp [m])] at hX
 clear m
 clear ht
 simp -implicitDefEqProofs (disch:=first|exact dz _|fail) only [↓AM.R0,AM.R1,AM.R2,qA,qB,qC,qD,qE,↓reduceIte,qG,qH,qI,e0,e4,e39]
 refine cI_or (t:=157) (s:=39) (x:=i.op) (by decide) [(159,46),(160,52)] (by simp -implicitDefEqProofs (disch:=first|exact dz _|fail) only [↓AM.R0,AM.R1,AM.R2,qA,qB,qC,qD,qE,↓reduceIte,qG,qH,qI,e0,e4,e39,gB]) (by simp -implicitDefEqProofs (disch:=first|exact dz _|fail) only [↓AM.R0,AM.R1,AM.R2,qA,qB,qC,qD,qE,↓reduceIte,qG,qH,qI,e0,e4,e39,gB]) (by decide) ?_
 intro e' ht hk
 have e0':Env.val e' 0=.ptr c 0 0:=(hk 0 (by decide) (by decide)).trans (by simp -implicitDefEqProofs (disch:=first|exact dz _|fail) only [↓AM.R0,AM.R1,AM.R2,qA,qB,qC,qD,qE,↓reduceIte,qG,qH,qI,e0,e4,e39,gB])
 have e4':Env.val e' 4=.ptr h1.n 0 0:=(hk 4 (by decide) (by decide)).trans (by simp -implicitDefEqProofs (disch:=first|exact dz _|fail) only [↓AM.R0,AM.R1,AM.R2,qA,qB,qC,qD,qE,↓reduceIte,qG,qH,qI,e0,e4,e39,gB])
 have e39':Env.val e' 39=.int .i64 i.op:=(hk 39 (by decide) (by decide)).trans (by simp -implicitDefEqProofs (disch:=first|exact dz _|fail) only [↓AM.R0,AM.R1,AM.R2,qA,qB,qC,qD,qE,↓reduceIte,qG,qH,qI,e0,e4,e39,gB])
 clear hk
 try clear e0
 have e0:=e0'
 clear e0'
 try clear e4
 have e4:=e4'
 clear e4'
 try clear e39
 have e39:=e39'
 clear e39'
 simp -implicitDefEqProofs (disch:=first|exact dz _|fail) only [↓AM.R0,AM.R1,AM.R2,qA,qB,qC,qD,qE,↓reduceIte,qG,qH,qI,ht]
 refine AM.cI_bool (fun hb=>?_) (fun hb=>?_)
 ·have m:orB i.op [39,46,52]=true:=hb
  clear hb
  rw [if_pos m] at hX
  simp -implicitDefEqProofs (disch:=first|exact dz _|fail) only [↓AM.R0,AM.R1,AM.R2,qA,qB,qC,qD,qE,↓reduceIte,qG,qH,qI,e0,e4,gB,AM.a_buildSlice,List.range,List.range.loop,List.getD_cons_zero,Nat.mod_one]
  refine AM.callI_of (are1 C2 i.a 0) ?_
  rintro r h3 ⟨f3,rfl⟩
  simp -implicitDefEqProofs (disch:=first|exact dz _|fail) only [↓AM.R0,AM.R1,AM.R2,qA,qB,qC,qD,qE,↓reduceIte,qG,qH,qI]
  subst hQ
  exact ⟨fT.trans f3,by rw [hX]⟩
 have m:orB i.op [39,46,52]=false:=hb
 clear hb
 rw [if_neg (by simp [m])] at hX
 clear m
 clear ht
 simp -implicitDefEqProofs (disch:=first|exact dz _|fail) only [↓AM.R0,AM.R1,AM.R2,qA,qB,qC,qD,qE,↓reduceIte,qG,qH,qI,e0,e4,e39]
 refine AM.cI_bool (fun hb=>?_) (fun hb=>?_)
 ·have m:orB i.op [47]=true:=(Bool.or_false _).trans hb
  clear hb
  rw [if_pos m] at hX
  simp -implicitDefEqProofs (disch:=first|exact dz _|fail) only [↓AM.R0,AM.R1,AM.R2,qA,qB,qC,qD,qE,↓reduceIte,qG,qH,qI]
  subst hQ
  exact ⟨fT,by rw [hX]⟩
 have m:orB i.op [47]=false:=(Bool.or_false _).trans hb
 clear hb
 rw [if_neg (by simp [m])] at hX
 clear m
 simp -implicitDefEqProofs (disch:=first|exact dz _|fail) only [↓AM.R0,AM.R1,AM.R2,qA,qB,qC,qD,qE,↓reduceIte,qG,qH,qI,e0,e4,e39]
 refine cI_or (t:=168) (s:=39) (x:=i.op) (by decide) [(170,51)] (by simp -implicitDefEqProofs (disch:=first|exact dz _|fail) only [↓AM.R0,AM.R1,AM.R2,qA,qB,qC,qD,qE,↓reduceIte,qG,qH,qI,e0,e4,e39,gB]) (by simp -implicitDefEqProofs (disch:=first|exact dz _|fail) only [↓AM.R0,AM.R1,AM.R2,qA,qB,qC,qD,qE,↓reduceIte,qG,qH,qI,e0,e4,e39,gB]) (by decide) ?_
 intro e' ht hk
 have e0':Env.val e' 0=.ptr c 0 0:=(hk 0 (by decide) (by decide)).trans (by simp -implicitDefEqProofs (disch:=first|exact dz _|fail) only [↓AM.R0,AM.R1,AM.R2,qA,qB,qC,qD,qE,↓reduceIte,qG,qH,qI,e0,e4,e39,gB])
 have e4':Env.val e' 4=.ptr h1.n 0 0:=(hk 4 (by decide) (by decide)).trans (by simp -implicitDefEqProofs (disch:=first|exact dz _|fail) only [↓AM.R0,AM.R1,AM.R2,qA,qB,qC,qD,qE,↓reduceIte,qG,qH,qI,e0,e4,e39,gB])
 have e39':Env.val e' 39=.int .i64 i.op:=(hk 39 (by decide) (by decide)).trans (by simp -implicitDefEqProofs (disch:=first|exact dz _|fail) only [↓AM.R0,AM.R1,AM.R2,qA,qB,qC,qD,qE,↓reduceIte,qG,qH,qI,e0,e4,e39,gB])
 clear hk
 try clear e0
 have e0:=e0'
 clear e0'
 try clear e4
 have e4:=e4'
 clear e4'
 try clear e39
 have e39:=e39'
 clear e39'
 simp -implicitDefEqProofs (disch:=first|exact dz _|fail) only [↓AM.R0,AM.R1,AM.R2,qA,qB,qC,qD,qE,↓reduceIte,qG,qH,qI,ht]
 refine AM.cI_bool (fun hb=>?_) (fun hb=>?_)
 ·have m:orB i.op [49,51]=true:=hb
  clear hb
  rw [if_pos m] at hX
  simp -implicitDefEqProofs (disch:=first|exact dz _|fail) only [↓AM.R0,AM.R1,AM.R2,qA,qB,qC,qD,qE,↓reduceIte,qG,qH,qI,e0,e4,gB,AM.a_buildSlice,List.range,List.range.loop,List.getD_cons_zero,Nat.mod_one]
  refine AM.callI_of (are2 C2 i.a 2 i.b 0) ?_
  rintro r h3 ⟨f3,rfl⟩
  simp -implicitDefEqProofs (disch:=first|exact dz _|fail) only [↓AM.R0,AM.R1,AM.R2,qA,qB,qC,qD,qE,↓reduceIte,qG,qH,qI]
  subst hQ
  exact ⟨fT.trans f3,by rw [hX]⟩
 have m:orB i.op [49,51]=false:=hb
 clear hb
 rw [if_neg (by simp [m])] at hX
 clear m
 clear ht
 simp -implicitDefEqProofs (disch:=first|exact dz _|fail) only [↓AM.R0,AM.R1,AM.R2,qA,qB,qC,qD,qE,↓reduceIte,qG,qH,qI,e0,e4,e39]
 refine AM.cI_bool (fun hb=>?_) (fun hb=>?_)
 ·have m:orB i.op [50]=true:=(Bool.or_false _).trans hb
  clear hb
  rw [if_pos m] at hX
  simp -implicitDefEqProofs (disch:=first|exact dz _|fail) only [↓AM.R0,AM.R1,AM.R2,qA,qB,qC,qD,qE,↓reduceIte,qG,qH,qI,e0,e4,gB,AM.a_buildSlice,List.range,List.range.loop,List.getD_cons_zero,Nat.mod_one]
  refine AM.callI_of (are2 C2 i.a 0 i.b 2) ?_
  rintro r h3 ⟨f3,rfl⟩
  simp -implicitDefEqProofs (disch:=first|exact dz _|fail) only [↓AM.R0,AM.R1,AM.R2,qA,qB,qC,qD,qE,↓reduceIte,qG,qH,qI]
  subst hQ
  exact ⟨fT.trans f3,by rw [hX]⟩
 have m:orB i.op [50]=false:=(Bool.or_false _).trans hb
 clear hb
 rw [if_neg (by simp [m])] at hX
 clear m
 simp -implicitDefEqProofs (disch:=first|exact dz _|fail) only [↓AM.R0,AM.R1,AM.R2,qA,qB,qC,qD,qE,↓reduceIte,qG,qH,qI,e0,e4,e39]
 refine cI_or (t:=187) (s:=39) (x:=i.op) (by decide) [(189,27),(190,28),(191,29),(192,30),(193,31),(194,32),(195,33),(196,34)] (by simp -implicitDefEqProofs (disch:=first|exact dz _|fail) only [↓AM.R0,AM.R1,AM.R2,qA,qB,qC,qD,qE,↓reduceIte,qG,qH,qI,e0,e4,e39,gB]) (by simp -implicitDefEqProofs (disch:=first|exact dz _|fail) only [↓AM.R0,AM.R1,AM.R2,qA,qB,qC,qD,qE,↓reduceIte,qG,qH,qI,e0,e4,e39,gB]) (by decide) ?_
 intro e' ht hk
 have e0':Env.val e' 0=.ptr c 0 0:=(hk 0 (by decide) (by decide)).trans (by simp -implicitDefEqProofs (disch:=first|exact dz _|fail) only [↓AM.R0,AM.R1,AM.R2,qA,qB,qC,qD,qE,↓reduceIte,qG,qH,qI,e0,e4,e39,gB])
 have e4':Env.val e' 4=.ptr h1.n 0 0:=(hk 4 (by decide) (by decide)).trans (by simp -implicitDefEqProofs (disch:=first|exact dz _|fail) only [↓AM.R0,AM.R1,AM.R2,qA,qB,qC,qD,qE,↓reduceIte,qG,qH,qI,e0,e4,e39,gB])
 have e39':Env.val e' 39=.int .i64 i.op:=(hk 39 (by decide) (by decide)).trans (by simp -implicitDefEqProofs (disch:=first|exact dz _|fail) only [↓AM.R0,AM.R1,AM.R2,qA,qB,qC,qD,qE,↓reduceIte,qG,qH,qI,e0,e4,e39,gB])
 clear hk
 try clear e0
 have e0:=e0'
 clear e0'
 try clear e4
 have e4:=e4'
 clear e4'
 try clear e39
 have e39:=e39'
 clear e39'
 simp -implicitDefEqProofs (disch:=first|exact dz _|fail) only [↓AM.R0,AM.R1,AM.R2,qA,qB,qC,qD,qE,↓reduceIte,qG,qH,qI,ht]
 refine AM.cI_bool (fun hb=>?_) (fun hb=>?_)
 ·have m:orB i.op [26,27,28,29,30,31,32,33,34]=true:=hb
  clear hb
  rw [if_pos m] at hX
  simp -implicitDefEqProofs (disch:=first|exact dz _|fail) only [↓AM.R0,AM.R1,AM.R2,qA,qB,qC,qD,qE,↓reduceIte,qG,qH,qI,e0,e4,gB,AM.a_buildSlice,List.range,List.range.loop,List.getD_cons_zero,Nat.mod_one]
  refine AM.callI_of (memory C2 H T hT R2) ?_
  rintro r h3 ⟨f3,rfl⟩
  simp -implicitDefEqProofs (disch:=first|exact dz _|fail) only [↓AM.R0,AM.R1,AM.R2,qA,qB,qC,qD,qE,↓reduceIte,qG,qH,qI]
  subst hQ
  exact ⟨fT.trans f3,by rw [hX]⟩
 have m:orB i.op [26,27,28,29,30,31,32,33,34]=false:=hb
 clear hb
 rw [if_neg (by simp [m])] at hX
 clear m
 clear ht
 simp -implicitDefEqProofs (disch:=first|exact dz _|fail) only [↓AM.R0,AM.R1,AM.R2,qA,qB,qC,qD,qE,↓reduceIte,qG,qH,qI,e0,e4,e39]
 refine cI_or (t:=200) (s:=39) (x:=i.op) (by decide) [(202,36),(203,37),(204,38)] (by simp -implicitDefEqProofs (disch:=first|exact dz _|fail) only [↓AM.R0,AM.R1,AM.R2,qA,qB,qC,qD,qE,↓reduceIte,qG,qH,qI,e0,e4,e39,gB]) (by simp -implicitDefEqProofs (disch:=first|exact dz _|fail) only [↓AM.R0,AM.R1,AM.R2,qA,qB,qC,qD,qE,↓reduceIte,qG,qH,qI,e0,e4,e39,gB]) (by decide) ?_
 intro e' ht hk
 have e0':Env.val e' 0=.ptr c 0 0:=(hk 0 (by decide) (by decide)).trans (by simp -implicitDefEqProofs (disch:=first|exact dz _|fail) only [↓AM.R0,AM.R1,AM.R2,qA,qB,qC,qD,qE,↓reduceIte,qG,qH,qI,e0,e4,e39,gB])
 have e4':Env.val e' 4=.ptr h1.n 0 0:=(hk 4 (by decide) (by decide)).trans (by simp -implicitDefEqProofs (disch:=first|exact dz _|fail) only [↓AM.R0,AM.R1,AM.R2,qA,qB,qC,qD,qE,↓reduceIte,qG,qH,qI,e0,e4,e39,gB])
 have e39':Env.val e' 39=.int .i64 i.op:=(hk 39 (by decide) (by decide)).trans (by simp -implicitDefEqProofs (disch:=first|exact dz _|fail) only [↓AM.R0,AM.R1,AM.R2,qA,qB,qC,qD,qE,↓reduceIte,qG,qH,qI,e0,e4,e39,gB])
 clear hk
 try clear e0
 have e0:=e0'
 clear e0'
 try clear e4
 have e4:=e4'
 clear e4'
 try clear e39
 have e39:=e39'
 clear e39'
 simp -implicitDefEqProofs (disch:=first|exact dz _|fail) only [↓AM.R0,AM.R1,AM.R2,qA,qB,qC,qD,qE,↓reduceIte,qG,qH,qI,ht]
 refine AM.cI_bool (fun hb=>?_) (fun hb=>?_)
 ·have m:orB i.op [35,36,37,38]=true:=hb
  clear hb
  rw [if_pos m] at hX
  simp -implicitDefEqProofs (disch:=first|exact dz _|fail) only [↓AM.R0,AM.R1,AM.R2,qA,qB,qC,qD,qE,↓reduceIte,qG,qH,qI,e0,e4,gB,AM.a_buildSlice,List.range,List.range.loop,List.getD_cons_zero,Nat.mod_one]
  refine AM.callI_of (calls C2 HP hl R2) ?_
  rintro r h3 ⟨f3,rfl⟩
  simp -implicitDefEqProofs (disch:=first|exact dz _|fail) only [↓AM.R0,AM.R1,AM.R2,qA,qB,qC,qD,qE,↓reduceIte,qG,qH,qI]
  subst hQ
  exact ⟨fT.trans f3,by rw [hX]⟩
 have m:orB i.op [35,36,37,38]=false:=hb
 clear hb
 rw [if_neg (by simp [m])] at hX
 clear m
 clear ht
 simp -implicitDefEqProofs (disch:=first|exact dz _|fail) only [↓AM.R0,AM.R1,AM.R2,qA,qB,qC,qD,qE,↓reduceIte,qG,qH,qI,e0,e4,e39,gB]
 refine AM.callI_of (channels C2 H hl R2) ?_
 rintro r h3 ⟨f3,rfl⟩
 simp -implicitDefEqProofs (disch:=first|exact dz _|fail) only [↓AM.R0,AM.R1,AM.R2,qA,qB,qC,qD,qE,↓reduceIte,qG,qH,qI]
 subst hQ
 exact ⟨fT.trans f3,by rw [hX]⟩
end Go.Proofs.Ytnbnpjhlflcjeaa.Id.V
namespace Go.Proofs.Ytnbnpjhlflcjeaa.Id.V
open Go Go.AM Go.Proofs.Ytnbnpjhlflcjeaa.AmGB
open Nat renaming reduceAdd → qA,reduceLeDiff → qB,reduceEqDiff → qC,reduceLT → qE
open Int renaming reduceToNat → qD,reduceEq → qG,reduceLT → qH,reduceLE → qI
def firstE {α:Type} (f:α→Int):List α→Nat→Int×Int
 | [],_=>(0,0)
 | a::l,n=>if f a≠0 then (f a,n) else firstE f l (n+1)
theorem firstE_drop {α:Type} {f:α→Int} {l:List α} {i:Nat} {a:α} (h:l[i]?=some a):firstE f (l.drop i) i=if f a≠0 then (f a,(i:Int)) else firstE f (l.drop (i+1)) (i+1):=by
 obtain ⟨hi,rfl⟩:=List.getElem?_eq_some_iff.1 h
 rw [List.drop_eq_getElem_cons hi];rfl
def tyF (nt:Nat) (t:Bool×List Int):Int :=
 if 16<t.2.length∨t.2.length<1∨(t.1=true∧t.2.length≠1) then 16 else if t.2.any (fun k=>!kindF nt k)=true then 10 else 0
def typesF (p:PProg):Int×Int :=
 if 32<p.types.length∨32<p.globals.length∨32<p.funcs.length∨p.funcs.length<1 then (16,0)
 else if (firstE (tyF p.types.length) p.types 0).1≠0 then firstE (tyF p.types.length) p.types 0
 else firstE (fun k=>if kindF p.types.length k=true then 0 else 15) p.globals 0
set_option maxHeartbeats 4000000 in
theorem types {h:AHeap} {c:Nat} {p:PProg} {f:PFunc} {i:PIns} (C:CkR h c p f i) (ok:p.Ok) :
  CallP AP 54 [.ptr c 0 0] h fun r h'=>HFrame h h' [] []∧r=.tup [.int .i64 (typesF p).1,.int .i64 (typesF p).2]:=by
 refine callP (rfl:Tr.get AP 54=some A54) ?_
 generalize hQ:(fun (r:AVal) (h':AHeap)=>_)=Q
 have C0:=C
 obtain ⟨tv,gv,fv,sv,rv,cv,at_,lv,g,lt,s1,s2,s3,s4,s5,s6,hi,s7⟩:=C
 have l1:=s1.len
 have l2:=s2.len
 have l3:=s3.len
 simp -implicitDefEqProofs (disch:=first|exact dz _|fail) only [AM.RGB,↓AM.R0,AM.R1,AM.R2,qA,qB,qC,qD,qE,↓reduceIte,qG,qH,qI,g,l1,l2,l3]
 refine AM.cI_bool (fun hb=>?_) (fun hb=>?_)
 ·simp -implicitDefEqProofs (disch:=first|exact dz _|fail) only [↓AM.R0,AM.R1,AM.R2,qA,qB,qC,qD,qE,↓reduceIte,qG,qH,qI]
  simp only [Bool.or_eq_true,decide_eq_true_eq] at hb
  subst hQ
  exact ⟨HFrame.refl (by simp),by rw [typesF,if_pos (by omega)]⟩
 simp only [Bool.or_eq_false_iff,decide_eq_false_iff_not] at hb
 have hm:typesF p=if (firstE (tyF p.types.length) p.types 0).1≠0 then firstE (tyF p.types.length) p.types 0 else firstE (fun k=>if kindF p.types.length k=true then 0 else 15) p.globals 0:=by
  rw [typesF,if_neg (by omega)]
 simp -implicitDefEqProofs (disch:=first|exact dz _|fail) only [↓AM.R0,AM.R1,AM.R2,qA,qB,qC,qD,qE,↓reduceIte,qG,qH,qI,g,l1]
 refine AM.loopI_of (fun k e h'=>∃ x:Nat,k+x=p.types.length∧e.val 0=.ptr c 0 0∧e.val 48=tv∧e.val 49=.int .i64 p.types.length∧e.val 50=.int .i64 x∧HFrame h h' [] []∧firstE (tyF p.types.length) p.types 0=firstE (tyF p.types.length) (p.types.drop x) x) p.types.length ?_ ?_
 ·refine ⟨0,by omega,?_,?_,?_,?_,HFrame.refl (by simp),by simp⟩<;>simp -implicitDefEqProofs (disch:=first|exact dz _|fail) only [↓AM.R0,AM.R1,AM.R2,qA,qB,qC,qD,qE,↓reduceIte,qG,qH,qI]<;>rfl
 ·rintro k e h' ⟨x,hk,e0,e48,e49,e50,fr,hF⟩
  simp -implicitDefEqProofs (disch:=first|exact dz _|fail) only [↓AM.R0,AM.R1,AM.R2,qA,qB,qC,qD,qE,↓reduceIte,qG,qH,qI,e48,e49,e50]
  refine AM.cI_bool (fun hc=>?_) (fun hc=>?_)
  ·simp only [decide_eq_true_eq] at hc
   obtain ⟨t,ht⟩:∃ t,p.types[x]?=some t:=⟨_,List.getElem?_eq_getElem (by omega)⟩
   obtain ⟨j,g2,off,vs,ro,row,x1,x2,x3,x4,x5,x6,fl,rfl,xl⟩:=(s1.mono (h':=h') (R':=TypeR h) (fun _ _ q=>q) fr.n (fun j hj=>fr.get j hj (by simp))).ix ht .i64
   have cf:=SlIn.cellv xl
   have lx:=xl.len
   obtain ⟨p1,p2⟩:=two_of x5
   have hw:IntKind.i64.wrap ((x:Int)+1)=((x+1:Nat):Int):=wrap64 (by omega) (by omega)
   rw [firstE_drop ht] at hF
   simp -implicitDefEqProofs (disch:=first|exact dz _|fail) only [AM.RGB,↓AM.R0,AM.R1,AM.R2,qA,qB,qC,qD,qE,↓reduceIte,qG,qH,qI,e0,e48,e49,e50,x1,x2,x5,cf,lx]
   have fT:=(fr.pushTmp (.cells 0 false [.bool false,.nils])).setTmp (i:=h'.n) fr.n (.cells 0 false [.bool t.1,fl])
   have gT:=AHeap.get_set_same (h'.push (.cells 0 false [.bool false,.nils])) h'.n (.cells 0 false [.bool t.1,fl])
   have nT:h'.n<((h'.push (.cells 0 false [.bool false,.nils])).set h'.n (.cells 0 false [.bool t.1,fl])).n:=by simp
   generalize ((h'.push (.cells 0 false [.bool false,.nils])).set h'.n (.cells 0 false [.bool t.1,fl]))=hA at *
   refine AM.cI_bool (fun hd=>?_) (fun hd=>?_)
   ·simp -implicitDefEqProofs (disch:=first|exact dz _|fail) only [↓AM.R0,AM.R1,AM.R2,qA,qB,qC,qD,qE,↓reduceIte,qG,qH,qI,e50]
    have h16:tyF p.types.length t=16:=by
     rw [tyF,if_pos]
     simp only [Bool.or_eq_true,Bool.and_eq_true,decide_eq_true_eq,Bool.not_eq_true',decide_eq_false_iff_not] at hd
     rcases hd with (q | q) | ⟨q1,q2⟩
     ·exact .inl (by omega)
     ·exact .inr (.inl (by omega))
     ·exact .inr (.inr ⟨q1,by omega⟩)
    rw [h16] at hF
    subst hQ
    exact ⟨fT,by rw [hm,hF];rfl⟩
   ·have hty:tyF p.types.length t=if t.2.any (fun k=>!kindF p.types.length k)=true then 10 else 0:=by
     rw [tyF,if_neg]
     simp only [Bool.or_eq_false_iff,Bool.and_eq_false_iff,decide_eq_false_iff_not,Bool.not_eq_false',decide_eq_true_eq,Bool.not_eq_true'] at hd
     rintro (q | q | ⟨q1,q2⟩)
     ·omega
     ·omega
     ·rw [q1] at hd;simp at hd;omega
    have h16:t.2.length≤16:=by
     simp only [Bool.or_eq_false_iff,decide_eq_false_iff_not] at hd
     omega
    simp -implicitDefEqProofs (disch:=first|exact dz _|fail) only [↓AM.R0,AM.R1,AM.R2,qA,qB,qC,qD,qE,↓reduceIte,qG,qH,qI,gT,lx]
    refine AM.loopI_of (fun k e h2=>∃ y:Nat,k+y=t.2.length∧e.val 0=.ptr c 0 0∧e.val 4=.int .i64 x∧e.val 48=tv∧e.val 49=.int .i64 p.types.length∧e.val 50=.int .i64 x∧e.val 77=fl∧e.val 78=.int .i64 t.2.length∧e.val 79=.int .i64 y∧h2=hA ∧
     t.2.any (fun k=>!kindF p.types.length k)=(t.2.drop y).any (fun k=>!kindF p.types.length k)) t.2.length ?_ ?_
    ·refine ⟨0,by omega,?_,?_,?_,?_,?_,?_,?_,?_,rfl,by simp⟩<;>simp -implicitDefEqProofs (disch:=first|exact dz _|fail) only [↓AM.R0,AM.R1,AM.R2,qA,qB,qC,qD,qE,↓reduceIte,qG,qH,qI,e0,e48,e49,e50]<;>rfl
    ·clear e0 e48 e49 e50
     rintro k e h2 ⟨y,hky,e0,e4,e48,e49,e50,e77,e78,e79,hh,hA2⟩
     subst hh
     simp -implicitDefEqProofs (disch:=first|exact dz _|fail) only [↓AM.R0,AM.R1,AM.R2,qA,qB,qC,qD,qE,↓reduceIte,qG,qH,qI,e77,e78,e79]
     refine AM.cI_bool (fun he=>?_) (fun he=>?_)
     ·simp only [decide_eq_true_eq] at he
      obtain ⟨a,ha⟩:∃ a,t.2[y]?=some a:=⟨_,List.getElem?_eq_getElem (by omega)⟩
      obtain ⟨j2,g3,off2,vs2,ro2,y1,y2,y3,y5⟩:=((xl.keep fT).rd ha).ix1 (enc:=fun n=>.int .i64 n) ha .i64
      have hw2:IntKind.i64.wrap ((y:Int)+1)=((y+1:Nat):Int):=wrap64 (by omega) (by omega)
      rw [any_drop ha] at hA2
      simp -implicitDefEqProofs (disch:=first|exact dz _|fail) only [↓AM.R0,AM.R1,AM.R2,qA,qB,qC,qD,qE,↓reduceIte,qG,qH,qI,e0,e77,e78,e79,y1,y2,y5]
      refine AM.callI_of (kind (C0.keep fT) a (ok.types t (List.mem_of_getElem? ht) a (List.mem_of_getElem? ha))) ?_
      rintro r h3 ⟨rfl,rfl⟩
      simp -implicitDefEqProofs (disch:=first|exact dz _|fail) only [↓AM.R0,AM.R1,AM.R2,qA,qB,qC,qD,qE,↓reduceIte,qG,qH,qI]
      refine AM.cI_bool (fun hf=>?_) (fun hf=>?_)
      ·simp -implicitDefEqProofs (disch:=first|exact dz _|fail) only [↓AM.R0,AM.R1,AM.R2,qA,qB,qC,qD,qE,↓reduceIte,qG,qH,qI,e4]
       rw [hf,Bool.true_or] at hA2
       rw [hty,if_pos hA2] at hF
       subst hQ
       exact ⟨fT,by rw [hm,hF];rfl⟩
      ·rw [hf,Bool.false_or] at hA2
       simp -implicitDefEqProofs (disch:=first|exact dz _|fail) only [↓AM.R0,AM.R1,AM.R2,qA,qB,qC,qD,qE,↓reduceIte,qG,qH,qI,e0,e4,e48,e49,e50,e77,e78,e79,hw2]
       exact ⟨t.2.length-(y+1),by omega,y+1,by omega,rfl,hA2⟩
     ·simp only [decide_eq_false_iff_not] at he
      rw [List.drop_of_length_le (by omega),List.any_nil] at hA2
      rw [hty,hA2,if_neg (by simp)] at hF
      simp -implicitDefEqProofs (disch:=first|exact dz _|fail) only [↓AM.R0,AM.R1,AM.R2,qA,qB,qC,qD,qE,↓reduceIte,qG,qH,qI,e0,e48,e49,e50,hw]
      exact ⟨p.types.length-(x+1),by omega,x+1,by omega,rfl,fT,hF⟩
  ·simp only [decide_eq_false_iff_not] at hc
   rw [List.drop_of_length_le (by omega)] at hF
   have hm2:typesF p=firstE (fun k=>if kindF p.types.length k=true then 0 else 15) p.globals 0:=by rw [hm,hF];rfl
   have g':=(fr.get c lt (by simp)).trans g
   have lt':c<h'.n:=by have:=fr.n;omega
   simp -implicitDefEqProofs (disch:=first|exact dz _|fail) only [↓AM.R0,AM.R1,AM.R2,qA,qB,qC,qD,qE,↓reduceIte,qG,qH,qI,e0,g',l2]
   refine AM.loopI_of (fun k e h2=>∃ x:Nat,k+x=p.globals.length∧e.val 0=.ptr c 0 0∧e.val 94=gv∧e.val 95=.int .i64 p.globals.length∧e.val 96=.int .i64 x∧h2=h'∧firstE (fun k=>if kindF p.types.length k=true then (0:Int) else 15) p.globals 0=firstE (fun k=>if kindF p.types.length k=true then (0:Int) else 15) (p.globals.drop x) x) p.globals.length ?_ ?_
   ·refine ⟨0,by omega,?_,?_,?_,?_,rfl,by simp⟩<;>simp -implicitDefEqProofs (disch:=first|exact dz _|fail) only [↓AM.R0,AM.R1,AM.R2,qA,qB,qC,qD,qE,↓reduceIte,qG,qH,qI,e0]<;>rfl
   ·clear e0 e48 e49 e50 hk hc
    rintro k e h2 ⟨x,hk,e0,e94,e95,e96,hh,hF⟩
    subst hh
    simp -implicitDefEqProofs (disch:=first|exact dz _|fail) only [↓AM.R0,AM.R1,AM.R2,qA,qB,qC,qD,qE,↓reduceIte,qG,qH,qI,e94,e95,e96]
    refine AM.cI_bool (fun hc=>?_) (fun hc=>?_)
    ·simp only [decide_eq_true_eq] at hc
     obtain ⟨a,ha⟩:∃ a,p.globals[x]?=some a:=⟨_,List.getElem?_eq_getElem (by omega)⟩
     obtain ⟨j2,g3,off2,vs2,ro2,y1,y2,y3,y5⟩:=((s2.keep fr).rd ha).ix1 (enc:=fun n=>.int .i64 n) ha .i64
     have hw2:IntKind.i64.wrap ((x:Int)+1)=((x+1:Nat):Int):=wrap64 (by omega) (by omega)
     rw [firstE_drop ha] at hF
     simp -implicitDefEqProofs (disch:=first|exact dz _|fail) only [↓AM.R0,AM.R1,AM.R2,qA,qB,qC,qD,qE,↓reduceIte,qG,qH,qI,e0,e94,e95,e96,y1,y2,y5]
     refine AM.callI_of (kind (C0.keep fr) a (ok.globals a (List.mem_of_getElem? ha))) ?_
     rintro r h3 ⟨rfl,rfl⟩
     simp -implicitDefEqProofs (disch:=first|exact dz _|fail) only [↓AM.R0,AM.R1,AM.R2,qA,qB,qC,qD,qE,↓reduceIte,qG,qH,qI]
     refine AM.cI_bool (fun hf=>?_) (fun hf=>?_)
     ·simp -implicitDefEqProofs (disch:=first|exact dz _|fail) only [↓AM.R0,AM.R1,AM.R2,qA,qB,qC,qD,qE,↓reduceIte,qG,qH,qI]
      have hf':kindF p.types.length a=false:=by simpa using hf
      rw [hf'] at hF
      subst hQ
      exact ⟨fr,by rw [hm2,hF];rfl⟩
     ·have hf':kindF p.types.length a=true:=by simpa using hf
      rw [hf'] at hF
      simp -implicitDefEqProofs (disch:=first|exact dz _|fail) only [↓AM.R0,AM.R1,AM.R2,qA,qB,qC,qD,qE,↓reduceIte,qG,qH,qI,e0,e94,e95,e96,hw2]
      exact ⟨p.globals.length-(x+1),by omega,x+1,by omega,rfl,hF⟩
    ·simp only [decide_eq_false_iff_not] at hc
     rw [List.drop_of_length_le (by omega)] at hF
     simp -implicitDefEqProofs (disch:=first|exact dz _|fail) only [↓AM.R0,AM.R1,AM.R2,qA,qB,qC,qD,qE,↓reduceIte,qG,qH,qI]
     subst hQ
     exact ⟨fr,by rw [hm2,hF];rfl⟩
end Go.Proofs.Ytnbnpjhlflcjeaa.Id.V
namespace Go.Proofs.Ytnbnpjhlflcjeaa.Id.V
open Go Go.AM Go.Proofs.Ytnbnpjhlflcjeaa.AmGB
open Nat renaming reduceAdd → qA,reduceLeDiff → qB,reduceEqDiff → qC,reduceLT → qE
open Int renaming reduceToNat → qD,reduceEq → qG,reduceLT → qH,reduceLE → qI
def slotsBad (nt:Nat) (k:Int):Bool:=!decide (k=2)&&!kindF nt k
def lastF (l:List PIns):Int:=if orB ((l.getLast?.map (·.op)).getD 0) [36,24,52,39]=true then 0 else 7
def headF (nt:Nat) (f:PFunc) (first:Bool):Int :=
 if 32<f.slots.length∨32<f.results.length∨256<f.code.length∨f.params<0∨f.slots.length<f.params then 16
 else if first=true∧(f.params≠0∨f.results.length≠0) then 13
 else if f.slots.any (slotsBad nt)=true then 10
 else if f.results.any (fun k=>!kindF nt k)=true then 10
 else if f.code.length=0 then 7 else lastF f.code
set_option maxHeartbeats 4000000 in
theorem head {h:AHeap} {c:Nat} {p:PProg} {f:PFunc} {i:PIns} (C:CkR h c p f i) (ok:f.Ok) (first:Bool) :
  CallP AP 55 [.ptr c 0 0,.bool first] h fun r h'=>HFrame h h' [] []∧r=.int .i64 (headF p.types.length f first):=by
 refine callP (rfl:Tr.get AP 55=some A55) ?_
 generalize hQ:(fun (r:AVal) (h':AHeap)=>_)=Q
 have C0:=C
 obtain ⟨tv,gv,fv,sv,rv,cv,at_,lv,g,lt,s1,s2,s3,s4,s5,s6,hi,s7⟩:=C
 have l4:=s4.len
 have l5:=s5.len
 have l6:=s6.len
 have c4:=SlIn.cellv s4
 have c5:=SlIn.cellv s5
 have c6:=SlR.cellv s6
 have fT:=((HFrame.refl (h:=h) (F:=[]) (by simp)).pushTmp (.cells 0 false [.int .i64 0,.nils,.nils,.nils])).setTmp (i:=h.n) (Nat.le_refl _) (.cells 0 false [.int .i64 f.params,sv,rv,cv])
 have gB:=AHeap.get_set_same (h.push (.cells 0 false [.int .i64 0,.nils,.nils,.nils])) h.n (.cells 0 false [.int .i64 f.params,sv,rv,cv])
 have hn0:h.n<((h.push (.cells 0 false [.int .i64 0,.nils,.nils,.nils])).set h.n (.cells 0 false [.int .i64 f.params,sv,rv,cv])).n:=by simp
 simp -implicitDefEqProofs (disch:=first|exact dz _|fail) only [AM.RGB,↓AM.R0,AM.R1,AM.R2,qA,qB,qC,qD,qE,↓reduceIte,qG,qH,qI,g,l4,l5,l6,c4,c5,c6]
 generalize ((h.push (.cells 0 false [.int .i64 0,.nils,.nils,.nils])).set h.n (.cells 0 false [.int .i64 f.params,sv,rv,cv]))=h1 at *
 have C1:=C0.keep fT
 refine AM.cI_bool (fun hb=>?_) (fun hb=>?_)
 ·simp -implicitDefEqProofs (disch:=first|exact dz _|fail) only [↓AM.R0,AM.R1,AM.R2,qA,qB,qC,qD,qE,↓reduceIte,qG,qH,qI]
  simp only [Bool.or_eq_true,decide_eq_true_eq] at hb
  subst hQ
  exact ⟨fT,by rw [headF,if_pos (by omega)]⟩
 simp only [Bool.or_eq_false_iff,decide_eq_false_iff_not] at hb
 obtain ⟨X,hX⟩:∃ X,X=headF p.types.length f first:=⟨_,rfl⟩
 rw [←hX] at hQ
 rw [headF,if_neg (by omega)] at hX
 simp -implicitDefEqProofs (disch:=first|exact dz _|fail) only [AM.RGB,↓AM.R0,AM.R1,AM.R2,qA,qB,qC,qD,qE,↓reduceIte,qG,qH,qI,gB,l5]
 refine AM.cI_bool (fun hc=>?_) (fun hc=>?_)
 ·simp -implicitDefEqProofs (disch:=first|exact dz _|fail) only [↓AM.R0,AM.R1,AM.R2,qA,qB,qC,qD,qE,↓reduceIte,qG,qH,qI]
  rw [if_pos (by simpa using hc)] at hX
  subst hQ
  exact ⟨fT,by rw [hX]⟩
 rw [if_neg (by rintro ⟨rfl,q⟩;revert hc;rcases q with q | q<;>simp [q])] at hX
 simp -implicitDefEqProofs (disch:=first|exact dz _|fail) only [↓AM.R0,AM.R1,AM.R2,qA,qB,qC,qD,qE,↓reduceIte,qG,qH,qI,gB,l4]
 refine AM.loopI_of (fun k e h'=>∃ y:Nat,k+y=f.slots.length∧e.val 0=.ptr c 0 0∧e.val 5=.ptr h.n 0 0∧e.val 56=sv∧e.val 57=.int .i64 f.slots.length∧e.val 58=.int .i64 y∧h'=h1 ∧
  f.slots.any (slotsBad p.types.length)=(f.slots.drop y).any (slotsBad p.types.length)) f.slots.length ?_ ?_
 ·refine ⟨0,by omega,?_,?_,?_,?_,?_,rfl,by simp⟩<;>simp -implicitDefEqProofs (disch:=first|exact dz _|fail) only [↓AM.R0,AM.R1,AM.R2,qA,qB,qC,qD,qE,↓reduceIte,qG,qH,qI]<;>rfl
 ·rintro k e h' ⟨y,hky,e0,e5,e56,e57,e58,hh,hA⟩
  subst hh
  simp -implicitDefEqProofs (disch:=first|exact dz _|fail) only [↓AM.R0,AM.R1,AM.R2,qA,qB,qC,qD,qE,↓reduceIte,qG,qH,qI,e56,e57,e58]
  refine AM.cI_bool (fun he=>?_) (fun he=>?_)
  ·simp only [decide_eq_true_eq] at he
   obtain ⟨a,ha⟩:∃ a,f.slots[y]?=some a:=⟨_,List.getElem?_eq_getElem (by omega)⟩
   obtain ⟨j2,g3,off2,vs2,ro2,y1,y2,y3,y5⟩:=((s4.keep fT).rd ha).ix1 (enc:=fun n=>.int .i64 n) ha .i64
   have hw2:IntKind.i64.wrap ((y:Int)+1)=((y+1:Nat):Int):=wrap64 (by omega) (by omega)
   rw [any_drop ha] at hA
   simp -implicitDefEqProofs (disch:=first|exact dz _|fail) only [↓AM.R0,AM.R1,AM.R2,qA,qB,qC,qD,qE,↓reduceIte,qG,qH,qI,e0,e5,e56,e57,e58,y1,y2,y5]
   refine AM.gI_bool (fun hf=>?_) (fun hf=>?_)
   ·simp -implicitDefEqProofs (disch:=first|exact dz _|fail) only [↓AM.R0,AM.R1,AM.R2,qA,qB,qC,qD,qE,↓reduceIte,qG,qH,qI,e0,hf]
    refine AM.callI_of (kind C1 a (ok.slots a (List.mem_of_getElem? ha))) ?_
    rintro r h3 ⟨rfl,rfl⟩
    simp -implicitDefEqProofs (disch:=first|exact dz _|fail) only [↓AM.R0,AM.R1,AM.R2,qA,qB,qC,qD,qE,↓reduceIte,qG,qH,qI,hf]
    refine AM.cI_bool (fun hd=>?_) (fun hd=>?_)
    ·simp -implicitDefEqProofs (disch:=first|exact dz _|fail) only [↓AM.R0,AM.R1,AM.R2,qA,qB,qC,qD,qE,↓reduceIte,qG,qH,qI]
     rw [slotsBad,hf,hd,Bool.true_and,Bool.true_or] at hA
     rw [if_pos hA] at hX
     subst hQ
     exact ⟨fT,by rw [hX]⟩
    ·rw [slotsBad,hf,hd,Bool.true_and,Bool.false_or] at hA
     simp -implicitDefEqProofs (disch:=first|exact dz _|fail) only [↓AM.R0,AM.R1,AM.R2,qA,qB,qC,qD,qE,↓reduceIte,qG,qH,qI,e0,e5,e56,e57,e58,hw2]
     exact ⟨f.slots.length-(y+1),by omega,y+1,by omega,rfl,hA⟩
   ·rw [slotsBad,hf,Bool.false_and,Bool.false_or] at hA
    simp -implicitDefEqProofs (disch:=first|exact dz _|fail) only [↓AM.R0,AM.R1,AM.R2,qA,qB,qC,qD,qE,↓reduceIte,qG,qH,qI,e0,e5,e56,e57,e58,hw2,hf]
    exact ⟨f.slots.length-(y+1),by omega,y+1,by omega,rfl,hA⟩
  ·simp only [decide_eq_false_iff_not] at he
   rw [List.drop_of_length_le (by omega),List.any_nil] at hA
   rw [if_neg (by simp [hA])] at hX
   simp -implicitDefEqProofs (disch:=first|exact dz _|fail) only [↓AM.R0,AM.R1,AM.R2,qA,qB,qC,qD,qE,↓reduceIte,qG,qH,qI,e0,e5,gB,l5]
   refine AM.loopI_of (fun k e h2=>∃ y:Nat,k+y=f.results.length∧e.val 0=.ptr c 0 0∧e.val 5=.ptr h.n 0 0∧e.val 72=rv∧e.val 73=.int .i64 f.results.length∧e.val 74=.int .i64 y∧h2=h' ∧
    f.results.any (fun k=>!kindF p.types.length k)=(f.results.drop y).any (fun k=>!kindF p.types.length k)) f.results.length ?_ ?_
   ·refine ⟨0,by omega,?_,?_,?_,?_,?_,rfl,by simp⟩<;>simp -implicitDefEqProofs (disch:=first|exact dz _|fail) only [↓AM.R0,AM.R1,AM.R2,qA,qB,qC,qD,qE,↓reduceIte,qG,qH,qI,e0,e5]<;>rfl
   ·clear e0 e5 e56 e57 e58 he hky hA
    rintro k e h2 ⟨y,hky,e0,e5,e72,e73,e74,hh,hA⟩
    subst hh
    simp -implicitDefEqProofs (disch:=first|exact dz _|fail) only [↓AM.R0,AM.R1,AM.R2,qA,qB,qC,qD,qE,↓reduceIte,qG,qH,qI,e72,e73,e74]
    refine AM.cI_bool (fun he=>?_) (fun he=>?_)
    ·simp only [decide_eq_true_eq] at he
     obtain ⟨a,ha⟩:∃ a,f.results[y]?=some a:=⟨_,List.getElem?_eq_getElem (by omega)⟩
     obtain ⟨j2,g3,off2,vs2,ro2,y1,y2,y3,y5⟩:=((s5.keep fT).rd ha).ix1 (enc:=fun n=>.int .i64 n) ha .i64
     have hw2:IntKind.i64.wrap ((y:Int)+1)=((y+1:Nat):Int):=wrap64 (by omega) (by omega)
     rw [any_drop ha] at hA
     simp -implicitDefEqProofs (disch:=first|exact dz _|fail) only [↓AM.R0,AM.R1,AM.R2,qA,qB,qC,qD,qE,↓reduceIte,qG,qH,qI,e0,e5,e72,e73,e74,y1,y2,y5]
     refine AM.callI_of (kind C1 a (ok.results a (List.mem_of_getElem? ha))) ?_
     rintro r h3 ⟨rfl,rfl⟩
     simp -implicitDefEqProofs (disch:=first|exact dz _|fail) only [↓AM.R0,AM.R1,AM.R2,qA,qB,qC,qD,qE,↓reduceIte,qG,qH,qI]
     refine AM.cI_bool (fun hd=>?_) (fun hd=>?_)
     ·simp -implicitDefEqProofs (disch:=first|exact dz _|fail) only [↓AM.R0,AM.R1,AM.R2,qA,qB,qC,qD,qE,↓reduceIte,qG,qH,qI]
      rw [hd,Bool.true_or] at hA
      rw [if_pos hA] at hX
      subst hQ
      exact ⟨fT,by rw [hX]⟩
     ·rw [hd,Bool.false_or] at hA
      simp -implicitDefEqProofs (disch:=first|exact dz _|fail) only [↓AM.R0,AM.R1,AM.R2,qA,qB,qC,qD,qE,↓reduceIte,qG,qH,qI,e0,e5,e72,e73,e74,hw2]
      exact ⟨f.results.length-(y+1),by omega,y+1,by omega,rfl,hA⟩
    ·simp only [decide_eq_false_iff_not] at he
     rw [List.drop_of_length_le (by omega),List.any_nil] at hA
     rw [if_neg (by simp [hA])] at hX
     simp -implicitDefEqProofs (disch:=first|exact dz _|fail) only [↓AM.R0,AM.R1,AM.R2,qA,qB,qC,qD,qE,↓reduceIte,qG,qH,qI,e0,e5,gB,l6]
     refine AM.cI_bool (fun hd=>?_) (fun hd=>?_)
     ·simp only [decide_eq_true_eq] at hd
      simp -implicitDefEqProofs (disch:=first|exact dz _|fail) only [↓AM.R0,AM.R1,AM.R2,qA,qB,qC,qD,qE,↓reduceIte,qG,qH,qI]
      rw [if_pos (by omega)] at hX
      subst hQ
      exact ⟨fT,by rw [hX]⟩
     ·simp only [decide_eq_false_iff_not] at hd
      rw [if_neg (by omega)] at hX
      obtain ⟨z,hz⟩:∃ z,f.code[f.code.length-1]?=some z:=⟨_,List.getElem?_eq_getElem (by omega)⟩
      have hz2:f.code.getLast?=some z:=by rw [List.getLast?_eq_getElem?];exact hz
      obtain ⟨j,g2,off,vs,ro,row,x1,x2,x3,x4,x5,x6,q7,lz,rfl,xl⟩:=(s6.mono (h':=h2) (R':=InsR h) (fun _ _ q=>q) fT.n (fun j hj=>fT.get j hj (by simp))).ix hz .i64
      have hw:IntKind.i64.wrap ((f.code.length:Int)-1)=((f.code.length-1:Nat):Int):=(wrap64 (by omega) (by omega)).trans (by omega)
      have p0:vs[off]?=some (.int .i64 z.op):=by
       have:((vs.drop off).take 6)[0]?=some (.int .i64 z.op):=by rw [x5];rfl
       rw [List.getElem?_take,if_pos (by omega),List.getElem?_drop] at this
       exact this
      rw [lastF,hz2] at hX
      simp only [Option.map_some,Option.getD_some] at hX
      simp -implicitDefEqProofs (disch:=first|exact dz _|fail) only [↓AM.R0,AM.R1,AM.R2,qA,qB,qC,qD,qE,↓reduceIte,qG,qH,qI,e0,e5,gB,l6,hw,x1,x2,p0]
      refine cI_or (t:=96) (s:=95) (x:=z.op) (by decide) [(98,24),(99,52),(100,39)] (by simp -implicitDefEqProofs (disch:=first|exact dz _|fail) only [↓AM.R0,AM.R1,AM.R2,qA,qB,qC,qD,qE,↓reduceIte,qG,qH,qI,e0]) (by simp -implicitDefEqProofs (disch:=first|exact dz _|fail) only [↓AM.R0,AM.R1,AM.R2,qA,qB,qC,qD,qE,↓reduceIte,qG,qH,qI,e0]) (by decide) ?_
      intro e' ht hk
      have e0':Env.val e' 0=.ptr c 0 0:=(hk 0 (by decide) (by decide)).trans (by simp -implicitDefEqProofs (disch:=first|exact dz _|fail) only [↓AM.R0,AM.R1,AM.R2,qA,qB,qC,qD,qE,↓reduceIte,qG,qH,qI,e0])
      clear hk
      try clear e0
      have e0:=e0'
      clear e0'
      simp -implicitDefEqProofs (disch:=first|exact dz _|fail) only [↓AM.R0,AM.R1,AM.R2,qA,qB,qC,qD,qE,↓reduceIte,qG,qH,qI,ht]
      refine AM.cI_bool (fun hf=>?_) (fun hf=>?_)
      ·have m:orB z.op [36,24,52,39]=true:=hf
       simp -implicitDefEqProofs (disch:=first|exact dz _|fail) only [↓AM.R0,AM.R1,AM.R2,qA,qB,qC,qD,qE,↓reduceIte,qG,qH,qI]
       rw [if_pos m] at hX
       subst hQ
       exact ⟨fT,by rw [hX]⟩
      ·have m:orB z.op [36,24,52,39]=false:=hf
       simp -implicitDefEqProofs (disch:=first|exact dz _|fail) only [↓AM.R0,AM.R1,AM.R2,qA,qB,qC,qD,qE,↓reduceIte,qG,qH,qI]
       rw [if_neg (by simp [m])] at hX
       subst hQ
       exact ⟨fT,by rw [hX]⟩
end Go.Proofs.Ytnbnpjhlflcjeaa.Id.V
namespace Go.Proofs.Ytnbnpjhlflcjeaa.Id.V
open Go Go.AM Go.Proofs.Ytnbnpjhlflcjeaa.AmGB
open Nat renaming reduceAdd → qA,reduceLeDiff → qB,reduceEqDiff → qC,reduceLT → qE
open Int renaming reduceToNat → qD,reduceEq → qG,reduceLT → qH,reduceLE → qI
def headsF (nt:Nat):List PFunc→Nat→Int×Int
 | [],_=>(0,0)
 | g::l,n=>if headF nt g (decide (n=0))≠0 then (headF nt g (decide (n=0)),n) else headsF nt l (n+1)
def codesF (p:PProg):List PFunc→Nat→Int×Int×Int
 | [],_=>(0,0,0)
 | g::l,n=>if (firstE (insF p g) g.code 0).1≠0 then ((firstE (insF p g) g.code 0).1,n,(firstE (insF p g) g.code 0).2) else codesF p l (n+1)
def checkF (p:PProg):Int×Int×Int :=
 if (typesF p).1≠0 then ((typesF p).1,-1,(typesF p).2)
 else if (headsF p.types.length p.funcs 0).1≠0 then ((headsF p.types.length p.funcs 0).1,(headsF p.types.length p.funcs 0).2,0)
 else codesF p p.funcs 0
theorem headsF_drop {nt:Nat} {l:List PFunc} {i:Nat} {a:PFunc} (h:l[i]?=some a):headsF nt (l.drop i) i=if headF nt a (decide (i=0))≠0 then (headF nt a (decide (i=0)),(i:Int)) else headsF nt (l.drop (i+1)) (i+1):=by
 obtain ⟨hi,rfl⟩:=List.getElem?_eq_some_iff.1 h
 rw [List.drop_eq_getElem_cons hi];rfl
theorem codesF_drop {p:PProg} {l:List PFunc} {i:Nat} {a:PFunc} (h:l[i]?=some a):codesF p (l.drop i) i=if (firstE (insF p a) a.code 0).1≠0 then ((firstE (insF p a) a.code 0).1,(i:Int),(firstE (insF p a) a.code 0).2) else codesF p (l.drop (i+1)) (i+1):=by
 obtain ⟨hi,rfl⟩:=List.getElem?_eq_some_iff.1 h
 rw [List.drop_eq_getElem_cons hi];rfl
theorem firstE_ok {α:Type} {f:α→Int}:∀ {l:List α} {n:Nat},(firstE f l n).1=0→∀ a,a∈l→f a=0
 | [],_,_,a,h=>(nomatch h)
 | b::l,n,e,a,h=>by
  unfold firstE at e
  by_cases hb:f b=0
  ·rw [if_neg (by simp [hb])] at e
   rcases List.mem_cons.1 h with rfl | h
   ·exact hb
   ·exact firstE_ok e a h
  ·rw [if_pos hb] at e;exact absurd e hb
theorem headsF_ok {nt:Nat}:∀ {l:List PFunc} {n:Nat},(headsF nt l n).1=0→∀ a,a∈l→∃ b,headF nt a b=0
 | [],_,_,a,h=>(nomatch h)
 | b::l,n,e,a,h=>by
  unfold headsF at e
  by_cases hb:headF nt b (decide (n=0))=0
  ·rw [if_neg (by simp [hb])] at e
   rcases List.mem_cons.1 h with rfl | h
   ·exact ⟨_,hb⟩
   ·exact headsF_ok e a h
  ·rw [if_pos hb] at e;exact absurd e hb
theorem typesF_ok {p:PProg} (h:(typesF p).1=0):p.types.length≤32∧p.globals.length≤32∧p.funcs.length≤32∧1≤p.funcs.length∧Ht p∧(∀ t,t∈p.types→t.2.length≤16):=by
 unfold typesF at h
 split at h
 ·cases h
 ·rename_i hc
  split at h
  ·rename_i hd;exact absurd h hd
  ·rename_i hd
   have hd':(firstE (tyF p.types.length) p.types 0).1=0:=by simpa using hd
   have ht:∀ t,t∈p.types→1≤t.2.length∧t.2.length≤16:=fun t ht=>by
    have:=firstE_ok hd' t ht
    unfold tyF at this
    split at this
    ·cases this
    ·omega
   exact ⟨by omega,by omega,by omega,by omega,fun t h=>by have:=(ht t h).1;intro e;rw [e] at this;simp at this,fun t h=>(ht t h).2⟩
theorem headF_ok {nt:Nat} {f:PFunc} {b:Bool} (h:headF nt f b=0):f.slots.length≤32∧f.results.length≤32∧f.code.length≤256∧0≤f.params∧f.params≤f.slots.length∧(∀ k,k∈f.slots→k=2∨kindF nt k=true)∧f.code.length≠0:=by
 unfold headF at h
 split at h
 ·cases h
 ·rename_i h1
  split at h
  ·cases h
  ·split at h
   ·cases h
   ·rename_i h3
    split at h
    ·cases h
    ·split at h
     ·cases h
     ·rename_i h5
      refine ⟨by omega,by omega,by omega,by omega,by omega,fun k hk=>?_,h5⟩
      have:=List.any_eq_false.1 (by simpa using h3:f.slots.any (slotsBad nt)=false) k hk
      unfold slotsBad at this
      simp only [Bool.and_eq_true,Bool.not_eq_true',decide_eq_false_iff_not,not_and,Bool.not_eq_false] at this
      by_cases hq:k=2
      ·exact .inl hq
      ·exact .inr (this hq)
theorem mkCk {h h':AHeap} {c:Nat} {p:PProg} {f:PFunc} {i:PIns} {tv gv fv sv rv cv:AVal} {at_:Int} {lv:AVal} (fr:HFrame h h' [] []) (g:h'.get c=.cells 0 false [tv,gv,fv,.int .i64 f.params,sv,rv,cv,.int .i64 at_,.int .i64 i.op,.int .i64 i.a,.int .i64 i.b,.int .i64 i.c,.int .u64 i.imm,lv]) (lt:c<h'.n)
  (RT:SlR h 2 (TypeR h) tv p.types) (RG:SlIn h 1 encK gv p.globals) (RF:SlR h 4 (FuncR h) fv p.funcs) (F1:SlIn h 1 encK sv f.slots) (F2:SlIn h 1 encK rv f.results) (F3:SlR h 6 (InsR h) cv f.code) (hi:i.imm≤18446744073709551615) (I1:SlIn h 1 encK lv i.list):CkR h' c p f i:=by
 have hn:=fr.n
 have k:∀ j,j<h.n→h'.get j=h.get j:=fun j hj=>fr.get j hj (by simp)
 exact ⟨tv,gv,fv,sv,rv,cv,at_,lv,g,lt,RT.mono (fun _ _ q=>TypeR.mono hn k q) hn k,RG.mono hn k,RF.mono (fun _ _ q=>FuncR.mono hn k q) hn k,F1.mono hn k,F2.mono hn k,F3.mono (fun _ _ q=>InsR.mono hn k q) hn k,hi,I1.mono hn k⟩
set_option maxHeartbeats 4000000 in
theorem check {h:AHeap} {p:PProg} {row:List AVal} (R:ProgR h p row) (ok:p.Ok) :
  CallP AP 34 [.agg row] h fun r h'=>HFrame h h' [] []∧r=.agg [.int .i64 (checkF p).1,.int .i64 (checkF p).2.1,.int .i64 (checkF p).2.2]:=by
 obtain ⟨tv,gv,fv,rfl,RT,RG,RF⟩:=R
 refine callP (rfl:Tr.get AP 34=some A34) ?_
 generalize hQ:(fun (r:AVal) (h':AHeap)=>_)=Q
 have c1:=SlR.cellv RT
 have c2:=SlIn.cellv RG
 have c3:=SlR.cellv RF
 have l3:=RF.len
 simp -implicitDefEqProofs (disch:=first|exact dz _|fail) only [↓AM.R0,AM.R1,AM.R2,qA,qB,qC,qD,qE,↓reduceIte,qG,qH,qI,c1,c2,c3]
 have f0:=(((HFrame.refl (h:=h) (F:=[]) (by simp)).pushTmp (.cells 0 false [tv,gv,fv])).pushTmp (.cells 0 false [.int .i64 0,.int .i64 0,.int .i64 0])).pushTmp (.cells 0 false [tv,gv,fv,.int .i64 0,.nils,.nils,.nils,.int .i64 0,.int .i64 0,.int .i64 0,.int .i64 0,.int .i64 0,.int .u64 0,.nils])
 obtain ⟨hA,hhA⟩:∃ hA,hA=((h.push (.cells 0 false [tv,gv,fv])).push (.cells 0 false [.int .i64 0,.int .i64 0,.int .i64 0])).push (.cells 0 false [tv,gv,fv,.int .i64 0,.nils,.nils,.nils,.int .i64 0,.int .i64 0,.int .i64 0,.int .i64 0,.int .i64 0,.int .u64 0,.nils]):=⟨_,rfl⟩
 have nA:hA.n=h.n+3:=by rw [hhA];rfl
 have gP:hA.get h.n=.cells 0 false [tv,gv,fv]:=by rw [hhA,AHeap.get_push_ne _ _ (by simp;omega),AHeap.get_push_ne _ _ (by simp)];exact AHeap.get_push_same _ _
 have gR:hA.get (h.n+1)=.cells 0 false [.int .i64 0,.int .i64 0,.int .i64 0]:=by rw [hhA,AHeap.get_push_ne _ _ (by simp)];exact AHeap.get_push_same (h.push (.cells 0 false [tv,gv,fv])) _
 have gC:hA.get (h.n+2)=.cells 0 false [tv,gv,fv,.int .i64 0,.nils,.nils,.nils,.int .i64 0,.int .i64 0,.int .i64 0,.int .i64 0,.int .i64 0,.int .u64 0,.nils]:=by rw [hhA];exact AHeap.get_push_same ((h.push (.cells 0 false [tv,gv,fv])).push (.cells 0 false [.int .i64 0,.int .i64 0,.int .i64 0])) _
 have hAe:=hhA
 rw [←hhA] at f0 ⊢
 clear hhA hAe
 have C0:CkR hA (h.n+2) p ⟨0,[],[],[]⟩ ⟨0,0,0,0,0,[]⟩:=mkCk f0 gC (by omega) RT RG RF (.inl (.inl ⟨rfl,rfl⟩)) (.inl (.inl ⟨rfl,rfl⟩)) (.inl ⟨rfl,rfl⟩) (by simp) (.inl (.inl ⟨rfl,rfl⟩))
 obtain ⟨X,hX⟩:∃ X,X=checkF p:=⟨_,rfl⟩
 rw [←hX] at hQ
 rw [checkF] at hX
 refine AM.callI_of (types C0 ok) ?_
 rintro r h1 ⟨f1,rfl⟩
 have gP1:=(f1.get h.n (by omega) (by simp)).trans gP
 have gR1:=(f1.get (h.n+1) (by omega) (by simp)).trans gR
 have gC1:=(f1.get (h.n+2) (by omega) (by simp)).trans gC
 have n1:h.n+3≤h1.n:=by have:=f1.n;omega
 have f01:=f0.trans f1
 simp -implicitDefEqProofs (disch:=first|exact dz _|fail) only [↓AM.R0,AM.R1,AM.R2,qA,qB,qC,qD,qE,↓reduceIte,qG,qH,qI]
 refine AM.cI_bool (fun hb=>?_) (fun hb=>?_)
 ·have hb':(typesF p).1≠0:=by simpa using hb
  rw [if_pos hb'] at hX
  simp -implicitDefEqProofs (disch:=first|exact dz _|fail) only [↓AM.R0,AM.R1,AM.R2,qA,qB,qC,qD,qE,↓reduceIte,qG,qH,qI,gR1]
  subst hQ
  exact ⟨f01.setTmp (by omega) _,by rw [hX]⟩
 have hb':¬ (typesF p).1≠0:=by simpa using hb
 rw [if_neg hb'] at hX
 obtain ⟨t1,t2,t3,t4,t5,t6⟩:=typesF_ok (by simpa using hb')
 simp -implicitDefEqProofs (disch:=first|exact dz _|fail) only [↓AM.R0,AM.R1,AM.R2,qA,qB,qC,qD,qE,↓reduceIte,qG,qH,qI,gP1,l3]
 refine AM.loopI_of (fun k e h'=>∃ (x:Nat) (f:PFunc) (sv rv cv:AVal),k+x=p.funcs.length∧e.val 1=.ptr h.n 0 0∧e.val 2=.ptr (h.n+1) 0 0∧e.val 3=.ptr (h.n+2) 0 0∧e.val 28=fv∧e.val 29=.int .i64 p.funcs.length∧e.val 30=.int .i64 x∧HFrame h h' [] []∧h.n+3≤h'.n ∧
  h'.get h.n=.cells 0 false [tv,gv,fv]∧h'.get (h.n+1)=.cells 0 false [.int .i64 0,.int .i64 0,.int .i64 0]∧h'.get (h.n+2)=.cells 0 false [tv,gv,fv,.int .i64 f.params,sv,rv,cv,.int .i64 0,.int .i64 0,.int .i64 0,.int .i64 0,.int .i64 0,.int .u64 0,.nils] ∧
  headsF p.types.length p.funcs 0=headsF p.types.length (p.funcs.drop x) x) p.funcs.length ?_ ?_
 ·refine ⟨0,⟨0,[],[],[]⟩,.nils,.nils,.nils,by omega,?_,?_,?_,?_,?_,?_,f01,n1,gP1,gR1,gC1,by simp⟩<;>simp -implicitDefEqProofs (disch:=first|exact dz _|fail) only [↓AM.R0,AM.R1,AM.R2,qA,qB,qC,qD,qE,↓reduceIte,qG,qH,qI]<;>rfl
 ·rintro k e h' ⟨x,fx,sx,rx,cx,hk,e1,e2,e3,e28,e29,e30,fr,hn,gP,gR,gC,hF⟩
  simp -implicitDefEqProofs (disch:=first|exact dz _|fail) only [↓AM.R0,AM.R1,AM.R2,qA,qB,qC,qD,qE,↓reduceIte,qG,qH,qI,e28,e29,e30]
  refine AM.cI_bool (fun hc=>?_) (fun hc=>?_)
  ·simp only [decide_eq_true_eq] at hc
   obtain ⟨f,hf⟩:∃ f,p.funcs[x]?=some f:=⟨_,List.getElem?_eq_getElem (by omega)⟩
   obtain ⟨j,g2,off,vs,ro,row,x1,x2,x3,x4,x5,x6,sv,rv,cv,rfl,ys,yr,yc⟩:=(RF.mono (h':=h') (R':=FuncR h) (fun _ _ q=>q) fr.n (fun j hj=>fr.get j hj (by simp))).ix hf .i64
   have k1:=SlIn.cellv ys
   have k2:=SlIn.cellv yr
   have k3:=SlR.cellv yc
   have hw:IntKind.i64.wrap ((x:Int)+1)=((x+1:Nat):Int):=wrap64 (by omega) (by omega)
   rw [headsF_drop hf] at hF
   simp -implicitDefEqProofs (disch:=first|exact dz _|fail) only [↓AM.R0,AM.R1,AM.R2,qA,qB,qC,qD,qE,↓reduceIte,qG,qH,qI,e1,e2,e3,e28,e29,e30,x1,x2,x5,k1,k2,k3,gC]
   have f2:=((fr.pushTmp (.cells 0 false [.int .i64 0,.nils,.nils,.nils])).setTmp (i:=h'.n) fr.n (.cells 0 false [.int .i64 f.params,sv,rv,cv])).setTmp (i:=h.n+2) (by omega) (.cells 0 false [tv,gv,fv,.int .i64 f.params,sv,rv,cv,.int .i64 0,.int .i64 0,.int .i64 0,.int .i64 0,.int .i64 0,.int .u64 0,.nils])
   obtain ⟨hB,hhB⟩:∃ hB,hB=((h'.push (.cells 0 false [.int .i64 0,.nils,.nils,.nils])).set h'.n (.cells 0 false [.int .i64 f.params,sv,rv,cv])).set (h.n+2) (.cells 0 false [tv,gv,fv,.int .i64 f.params,sv,rv,cv,.int .i64 0,.int .i64 0,.int .i64 0,.int .i64 0,.int .i64 0,.int .u64 0,.nils]):=⟨_,rfl⟩
   have nB:hB.n=h'.n+1:=by rw [hhB];rfl
   have gP2:hB.get h.n=.cells 0 false [tv,gv,fv]:=by rw [hhB,AHeap.get_set_ne _ _ (by omega),AHeap.get_set_ne _ _ (by omega),AHeap.get_push_ne _ _ (by omega)];exact gP
   have gR2:hB.get (h.n+1)=.cells 0 false [.int .i64 0,.int .i64 0,.int .i64 0]:=by rw [hhB,AHeap.get_set_ne _ _ (by omega),AHeap.get_set_ne _ _ (by omega),AHeap.get_push_ne _ _ (by omega)];exact gR
   have gC2:hB.get (h.n+2)=.cells 0 false [tv,gv,fv,.int .i64 f.params,sv,rv,cv,.int .i64 0,.int .i64 0,.int .i64 0,.int .i64 0,.int .i64 0,.int .u64 0,.nils]:=by rw [hhB];exact AHeap.get_set_same _ _ _
   rw [←hhB] at f2 ⊢
   clear hhB
   have C2:CkR hB (h.n+2) p f ⟨0,0,0,0,0,[]⟩:=mkCk f2 gC2 (by omega) RT RG RF ys yr yc (by simp) (.inl (.inl ⟨rfl,rfl⟩))
   have hdz:decide ((x:Int)=0)=decide (x=0):=decide_eq_decide.2 (by omega)
   rw [hdz]
   refine AM.callI_of (head C2 (ok.funcs f (List.mem_of_getElem? hf)) (decide (x=0))) ?_
   rintro r h3 ⟨f3,rfl⟩
   have gP3:=(f3.get h.n (by omega) (by simp)).trans gP2
   have gR3:=(f3.get (h.n+1) (by omega) (by simp)).trans gR2
   have gC3:=(f3.get (h.n+2) (by omega) (by simp)).trans gC2
   have n3:h.n+3≤h3.n:=by have:=f3.n;omega
   have f23:=f2.trans f3
   simp -implicitDefEqProofs (disch:=first|exact dz _|fail) only [↓AM.R0,AM.R1,AM.R2,qA,qB,qC,qD,qE,↓reduceIte,qG,qH,qI]
   refine AM.cI_bool (fun hd=>?_) (fun hd=>?_)
   ·have hd':headF p.types.length f (decide (x=0))≠0:=by simpa using hd
    rw [if_pos hd'] at hF
    rw [hF,if_pos hd'] at hX
    simp -implicitDefEqProofs (disch:=first|exact dz _|fail) only [↓AM.R0,AM.R1,AM.R2,qA,qB,qC,qD,qE,↓reduceIte,qG,qH,qI,e2,gR3]
    subst hQ
    exact ⟨f23.setTmp (by omega) _,by rw [hX]⟩
   ·have hd':¬ headF p.types.length f (decide (x=0))≠0:=by simpa using hd
    rw [if_neg hd'] at hF
    simp -implicitDefEqProofs (disch:=first|exact dz _|fail) only [↓AM.R0,AM.R1,AM.R2,qA,qB,qC,qD,qE,↓reduceIte,qG,qH,qI,e1,e2,e3,e28,e29,e30,hw]
    exact ⟨p.funcs.length-(x+1),by omega,x+1,f,sv,rv,cv,by omega,rfl,f23,n3,gP3,gR3,gC3,hF⟩
  ·simp only [decide_eq_false_iff_not] at hc
   rw [List.drop_of_length_le (by omega)] at hF
   have hall:(headsF p.types.length p.funcs 0).1=0:=by rw [hF];rfl
   have hHp:Hp p:=fun g hg=>by
    obtain ⟨b,hb⟩:=headsF_ok hall g hg
    obtain ⟨q1,q2,q3,q4,q5,_⟩:=headF_ok hb
    exact ⟨q4,q5,q1,q2⟩
   have hHs:∀ g,g∈p.funcs→Hs p g.slots∧g.code.length≤256:=fun g hg=>by
    obtain ⟨b,hb⟩:=headsF_ok hall g hg
    obtain ⟨q1,q2,q3,q4,q5,q6,_⟩:=headF_ok hb
    exact ⟨q6,q3⟩
   rw [hF,if_neg (by simp [headsF])] at hX
   clear hF hall
   simp -implicitDefEqProofs (disch:=first|exact dz _|fail) only [↓AM.R0,AM.R1,AM.R2,qA,qB,qC,qD,qE,↓reduceIte,qG,qH,qI,e1,gP,l3]
   refine AM.loopI_of (fun k e h'=>∃ (x:Nat) (a0 a1 a2 a3 a4 a5 a6 a7 a8 a9 a10:AVal),k+x=p.funcs.length∧e.val 1=.ptr h.n 0 0∧e.val 2=.ptr (h.n+1) 0 0∧e.val 3=.ptr (h.n+2) 0 0∧e.val 50=fv∧e.val 51=.int .i64 p.funcs.length∧e.val 52=.int .i64 x∧HFrame h h' [] []∧h.n+3≤h'.n ∧
    h'.get (h.n+1)=.cells 0 false [.int .i64 0,.int .i64 0,.int .i64 0]∧h'.get (h.n+2)=.cells 0 false [tv,gv,fv,a0,a1,a2,a3,a4,a5,a6,a7,a8,a9,a10] ∧
    codesF p p.funcs 0=codesF p (p.funcs.drop x) x) p.funcs.length ?_ ?_
   ·refine ⟨0,_,_,_,_,_,_,_,_,_,_,_,by omega,?_,?_,?_,?_,?_,?_,fr,hn,gR,gC,by simp⟩<;>simp -implicitDefEqProofs (disch:=first|exact dz _|fail) only [↓AM.R0,AM.R1,AM.R2,qA,qB,qC,qD,qE,↓reduceIte,qG,qH,qI,e1,e2,e3]<;>rfl
   ·clear e1 e2 e3 e28 e29 e30 fr hn gP gR gC hk hc
    rintro k e h' ⟨x,a0,a1,a2,a3,a4,a5,a6,a7,a8,a9,a10,hk,e1,e2,e3,e50,e51,e52,fr,hn,gR,gC,hF⟩
    simp -implicitDefEqProofs (disch:=first|exact dz _|fail) only [↓AM.R0,AM.R1,AM.R2,qA,qB,qC,qD,qE,↓reduceIte,qG,qH,qI,e50,e51,e52]
    refine AM.cI_bool (fun hc=>?_) (fun hc=>?_)
    ·simp only [decide_eq_true_eq] at hc
     obtain ⟨f,hf⟩:∃ f,p.funcs[x]?=some f:=⟨_,List.getElem?_eq_getElem (by omega)⟩
     obtain ⟨j,g2,off,vs,ro,row,x1,x2,x3,x4,x5,x6,sv,rv,cv,rfl,ys,yr,yc⟩:=(RF.mono (h':=h') (R':=FuncR h) (fun _ _ q=>q) fr.n (fun j hj=>fr.get j hj (by simp))).ix hf .i64
     have k1:=SlIn.cellv ys
     have k2:=SlIn.cellv yr
     have k3:=SlR.cellv yc
     have lc:=yc.len
     have hw:IntKind.i64.wrap ((x:Int)+1)=((x+1:Nat):Int):=wrap64 (by omega) (by omega)
     rw [codesF_drop hf] at hF
     simp -implicitDefEqProofs (disch:=first|exact dz _|fail) only [↓AM.R0,AM.R1,AM.R2,qA,qB,qC,qD,qE,↓reduceIte,qG,qH,qI,e1,e2,e3,e50,e51,e52,x1,x2,x5,k1,k2,k3,gC,lc]
     have f2:=((fr.pushTmp (.cells 0 false [.int .i64 0,.nils,.nils,.nils])).setTmp (i:=h'.n) fr.n (.cells 0 false [.int .i64 f.params,sv,rv,cv])).setTmp (i:=h.n+2) (by omega) (.cells 0 false [tv,gv,fv,.int .i64 f.params,sv,rv,cv,a4,a5,a6,a7,a8,a9,a10])
     obtain ⟨hB,hhB⟩:∃ hB,hB=((h'.push (.cells 0 false [.int .i64 0,.nils,.nils,.nils])).set h'.n (.cells 0 false [.int .i64 f.params,sv,rv,cv])).set (h.n+2) (.cells 0 false [tv,gv,fv,.int .i64 f.params,sv,rv,cv,a4,a5,a6,a7,a8,a9,a10]):=⟨_,rfl⟩
     have nB:hB.n=h'.n+1:=by rw [hhB];rfl
     have gR2:hB.get (h.n+1)=.cells 0 false [.int .i64 0,.int .i64 0,.int .i64 0]:=by rw [hhB,AHeap.get_set_ne _ _ (by omega),AHeap.get_set_ne _ _ (by omega),AHeap.get_push_ne _ _ (by omega)];exact gR
     have gC2:hB.get (h.n+2)=.cells 0 false [tv,gv,fv,.int .i64 f.params,sv,rv,cv,a4,a5,a6,a7,a8,a9,a10]:=by rw [hhB];exact AHeap.get_set_same _ _ _
     rw [←hhB] at f2 ⊢
     clear hhB
     obtain ⟨hs1,hs2⟩:=hHs f (List.mem_of_getElem? hf)
     refine AM.loopI_of (fun k e h2=>∃ (y:Nat) (b4 b5 b6 b7 b8 b9 b10:AVal),k+y=f.code.length∧e.val 1=.ptr h.n 0 0∧e.val 2=.ptr (h.n+1) 0 0∧e.val 3=.ptr (h.n+2) 0 0∧e.val 9=.int .i64 x∧e.val 50=fv∧e.val 51=.int .i64 p.funcs.length∧e.val 52=.int .i64 x∧e.val 62=cv∧e.val 63=.int .i64 f.code.length∧e.val 64=.int .i64 y∧HFrame h h2 [] []∧h.n+3≤h2.n ∧
      h2.get (h.n+1)=.cells 0 false [.int .i64 0,.int .i64 0,.int .i64 0]∧h2.get (h.n+2)=.cells 0 false [tv,gv,fv,.int .i64 f.params,sv,rv,cv,b4,b5,b6,b7,b8,b9,b10] ∧
      firstE (insF p f) f.code 0=firstE (insF p f) (f.code.drop y) y) f.code.length ?_ ?_
     ·refine ⟨0,_,_,_,_,_,_,_,by omega,?_,?_,?_,?_,?_,?_,?_,?_,?_,?_,f2,by omega,gR2,gC2,by simp⟩<;>simp -implicitDefEqProofs (disch:=first|exact dz _|fail) only [↓AM.R0,AM.R1,AM.R2,qA,qB,qC,qD,qE,↓reduceIte,qG,qH,qI,e1,e2,e3,e50,e51,e52]<;>rfl
     ·clear e1 e2 e3 e50 e51 e52 f2 nB gR2 gC2 gR gC
      rintro k2 e h2 ⟨y,b4,b5,b6,b7,b8,b9,b10,hky,e1,e2,e3,e9,e50,e51,e52,e62,e63,e64,f2,n2,gR,gC,hE⟩
      simp -implicitDefEqProofs (disch:=first|exact dz _|fail) only [↓AM.R0,AM.R1,AM.R2,qA,qB,qC,qD,qE,↓reduceIte,qG,qH,qI,e62,e63,e64]
      refine AM.cI_bool (fun hd=>?_) (fun hd=>?_)
      ·simp only [decide_eq_true_eq] at hd
       obtain ⟨z,hz⟩:∃ z,f.code[y]?=some z:=⟨_,List.getElem?_eq_getElem (by omega)⟩
       obtain ⟨j,g2,off,vs,ro,row,x1,x2,x3,x4,x5,x6,q7,lz,rfl,xl⟩:=(yc.mono (h':=h2) (R':=InsR h) (fun _ _ q=>q) f2.n (fun j hj=>f2.get j hj (by simp))).ix hz .i64
       have k4:=SlIn.cellv xl
       have kb:=SlIn.beqv xl
       have hw2:IntKind.i64.wrap ((y:Int)+1)=((y+1:Nat):Int):=wrap64 (by omega) (by omega)
       rw [firstE_drop hz] at hE
       simp -implicitDefEqProofs (disch:=first|exact dz _|fail) only [↓AM.R0,AM.R1,AM.R2,qA,qB,qC,qD,qE,↓reduceIte,qG,qH,qI,e1,e2,e3,e9,e50,e51,e52,e62,e63,e64,x1,x2,x5,k4,kb,gC]
       have f3:=(((f2.pushTmp (.cells 0 false [.int .i64 0,.int .i64 0,.int .i64 0,.int .i64 0,.int .u64 0,.nils])).setTmp (i:=h2.n) f2.n (.cells 0 false [.int .i64 z.op,.int .i64 z.a,.int .i64 z.b,.int .i64 z.c,.int .u64 z.imm,lz])).setTmp (i:=h.n+2) (by omega) (.cells 0 false [tv,gv,fv,.int .i64 f.params,sv,rv,cv,.int .i64 y,b5,b6,b7,b8,b9,b10])).setTmp (i:=h.n+2) (by omega) (.cells 0 false [tv,gv,fv,.int .i64 f.params,sv,rv,cv,.int .i64 y,.int .i64 z.op,.int .i64 z.a,.int .i64 z.b,.int .i64 z.c,.int .u64 z.imm,lz])
       obtain ⟨hB,hhB⟩:∃ hB,hB=(((h2.push (.cells 0 false [.int .i64 0,.int .i64 0,.int .i64 0,.int .i64 0,.int .u64 0,.nils])).set h2.n (.cells 0 false [.int .i64 z.op,.int .i64 z.a,.int .i64 z.b,.int .i64 z.c,.int .u64 z.imm,lz])).set (h.n+2) (.cells 0 false [tv,gv,fv,.int .i64 f.params,sv,rv,cv,.int .i64 y,b5,b6,b7,b8,b9,b10])).set (h.n+2) (.cells 0 false [tv,gv,fv,.int .i64 f.params,sv,rv,cv,.int .i64 y,.int .i64 z.op,.int .i64 z.a,.int .i64 z.b,.int .i64 z.c,.int .u64 z.imm,lz]):=⟨_,rfl⟩
       have nB:hB.n=h2.n+1:=by rw [hhB];rfl
       have gR2:hB.get (h.n+1)=.cells 0 false [.int .i64 0,.int .i64 0,.int .i64 0]:=by rw [hhB,AHeap.get_set_ne _ _ (by omega),AHeap.get_set_ne _ _ (by omega),AHeap.get_set_ne _ _ (by omega),AHeap.get_push_ne _ _ (by omega)];exact gR
       have gC2:hB.get (h.n+2)=.cells 0 false [tv,gv,fv,.int .i64 f.params,sv,rv,cv,.int .i64 y,.int .i64 z.op,.int .i64 z.a,.int .i64 z.b,.int .i64 z.c,.int .u64 z.imm,lz]:=by rw [hhB];exact AHeap.get_set_same _ _ _
       rw [←hhB] at f3 ⊢
       clear hhB
       have C3:CkR hB (h.n+2) p f z:=mkCk f3 gC2 (by omega) RT RG RF ys yr yc q7 xl
       refine AM.callI_of (one C3 hs1 t5 t1 hHp) ?_
       rintro r h3 ⟨f34,rfl⟩
       have gR3:=(f34.get (h.n+1) (by omega) (by simp)).trans gR2
       have gC3:=(f34.get (h.n+2) (by omega) (by simp)).trans gC2
       have n3:h.n+3≤h3.n:=by have:=f34.n;omega
       have f4:=f3.trans f34
       simp -implicitDefEqProofs (disch:=first|exact dz _|fail) only [↓AM.R0,AM.R1,AM.R2,qA,qB,qC,qD,qE,↓reduceIte,qG,qH,qI]
       refine AM.cI_bool (fun hg=>?_) (fun hg=>?_)
       ·have hg':insF p f z≠0:=by simpa using hg
        rw [if_pos hg'] at hE
        rw [hE,if_pos hg'] at hF
        rw [hF] at hX
        simp -implicitDefEqProofs (disch:=first|exact dz _|fail) only [↓AM.R0,AM.R1,AM.R2,qA,qB,qC,qD,qE,↓reduceIte,qG,qH,qI,e2,e9,gR3]
        subst hQ
        exact ⟨f4.setTmp (by omega) _,by rw [hX]⟩
       ·have hg':¬ insF p f z≠0:=by simpa using hg
        rw [if_neg hg'] at hE
        simp -implicitDefEqProofs (disch:=first|exact dz _|fail) only [↓AM.R0,AM.R1,AM.R2,qA,qB,qC,qD,qE,↓reduceIte,qG,qH,qI,e1,e2,e3,e9,e50,e51,e52,e62,e63,e64,hw2]
        exact ⟨f.code.length-(y+1),by omega,y+1,_,_,_,_,_,_,_,by omega,rfl,f4,n3,gR3,gC3,hE⟩
      ·simp only [decide_eq_false_iff_not] at hd
       rw [List.drop_of_length_le (by omega)] at hE
       rw [hE,if_neg (by simp [firstE])] at hF
       simp -implicitDefEqProofs (disch:=first|exact dz _|fail) only [↓AM.R0,AM.R1,AM.R2,qA,qB,qC,qD,qE,↓reduceIte,qG,qH,qI,e1,e2,e3,e50,e51,e52,hw]
       exact ⟨p.funcs.length-(x+1),by omega,x+1,_,_,_,_,_,_,_,_,_,_,_,by omega,rfl,f2,n2,gR,gC,hF⟩
    ·simp only [decide_eq_false_iff_not] at hc
     rw [List.drop_of_length_le (by omega)] at hF
     rw [hF] at hX
     simp -implicitDefEqProofs (disch:=first|exact dz _|fail) only [↓AM.R0,AM.R1,AM.R2,qA,qB,qC,qD,qE,↓reduceIte,qG,qH,qI,e2,gR]
     subst hQ
     exact ⟨fr.setTmp (by omega) _,by rw [hX];rfl⟩
end Go.Proofs.Ytnbnpjhlflcjeaa.Id.V
namespace Go.Proofs.Ytnbnpjhlflcjeaa.Id
open Go Go.AM Go.Proofs.Ytnbnpjhlflcjeaa.AmGB
open Nat renaming reduceAdd → qA,reduceLeDiff → qB,reduceEqDiff → qC,reduceLT → qE
open Int renaming reduceToNat → qD,reduceEq → qG,reduceLT → qH,reduceLE → qI
def SlX (h:AHeap) (esz:Nat) {α:Type} (enc:α→List AVal) (v:AVal) (l:List α) (F:List Nat):Prop :=
 (v=.nils∧l=[]∧F=[])∨∃ id g off vs,v=.sl id g off l.length esz∧h.get id=.cells g false vs∧id<h.n∧off+l.length*esz≤vs.length∧(vs.drop off).take (l.length*esz)=l.flatMap enc∧F=[id]
section
variable {α:Type} {enc:α→List AVal} {esz:Nat} {h h':AHeap} {v:AVal} {l:List α} {F:List Nat}
theorem SlX.of (s:SlOf h esz enc v l F):SlX h esz enc v l F:=by
 rcases s with ⟨a,b,c⟩ | ⟨id,g,off,vs,a,b,c,d,e,f⟩
 ·exact .inl ⟨a,b,c⟩
 ·exact .inr ⟨id,g,off,vs,a,b,c,by omega,by rw [←e,List.take_of_length_le];simp;omega,f⟩
theorem SlX.rd (s:SlX h esz enc v l F):SlRd h esz enc v l:=by
 rcases s with ⟨a,b,_⟩ | ⟨id,g,off,vs,a,b,c,d,e,_⟩
 ·exact .inl ⟨a,b⟩
 ·exact .inr ⟨id,g,off,vs,false,a,b,c,d,e⟩
theorem SlX.len (s:SlX h esz enc v l F) (h':AHeap):lenV h' v=some (.int .i64 l.length,h'):=s.rd.len h'
theorem SlX.frame (s:SlX h esz enc v l F) (hn:h.n≤h'.n) (k:∀ j,j∈F→h'.get j=h.get j):SlX h' esz enc v l F:=by
 rcases s with ⟨a,b,c⟩ | ⟨id,g,off,vs,a,b,c,d,e,f⟩
 ·exact .inl ⟨a,b,c⟩
 ·exact .inr ⟨id,g,off,vs,a,by rw [k id (by simp [f])];exact b,by omega,d,e,f⟩
theorem SlX.lt (s:SlX h esz enc v l F):∀ j,j∈F→j<h.n:=by
 rcases s with ⟨a,b,c⟩ | ⟨id,g,off,vs,a,b,c,d,e,f⟩
 ·simp [c]
 ·simp [f,c]
theorem SlX.cells (s:SlX h esz enc v l F):v.cells=[v]∧v.cell=true:=s.rd.cells
theorem SlX.beq (s:SlX h esz enc v l F):v.beq v=true:=s.rd.beq
theorem SlX.nil:SlX h esz enc .nils ([]:List α) []:=.inl ⟨rfl,rfl,rfl⟩
theorem SlX.app (s:SlX h esz enc v l F) {y:AVal} {l2:List α} (t:SlRd h esz enc y l2) (hE:∀ a,(enc a).length=esz) (hC:∀ a,a∈l2→(enc a).all (·.cell)=true) {bytes:Nat} (hb:(l.length+l2.length)*bytes≤1099511627776) {k:AVal→AHeap→Prop}
  (w:∀ v' h' F',SlX h' esz enc v' (l++l2) F'→HFrame h h' F F'→k v' h'):AM.wpOp (h.app esz bytes v y) k:=by
 have hcs:(l2.flatMap enc).all (·.cell)=true:=by
  rw [List.all_eq_true];intro x hx
  obtain ⟨a,ha1,ha⟩:=List.mem_flatMap.1 hx
  exact List.all_eq_true.1 (hC a ha1) x ha
 unfold AHeap.app
 rw [t.elems,Option.bind_some]
 simp only
 have hlt:=s.lt
 rcases s with ⟨a,b,c⟩ | ⟨id,g,off,vs,e1,e2,e3,e4,e5,e6⟩
 ·subst a b c
  simp only
  by_cases h0:l2.length=0
  ·rw [if_pos h0]
   have:l2=[]:=List.eq_nil_of_length_eq_zero h0
   subst this
   exact w _ _ [] (.inl ⟨rfl,rfl,rfl⟩) (HFrame.refl (by simp))
  ·rw [if_neg h0,if_pos ⟨by simpa using hb,hcs⟩]
   refine w _ _ [h.n] (.inr ⟨h.n,0,0,_,rfl,AHeap.get_push_same _ _,by simp,?_,?_,rfl⟩) ⟨by simp,rfl,fun j hj _=>AHeap.get_push_ne h _ (by omega),fun j hj=>.inr (by simp at hj;omega),fun j hj=>by simp at hj;simp;omega⟩
   ·rw [flat_len hE];simp
   ·simp only [List.drop_zero,List.nil_append]
    rw [List.take_of_length_le (by rw [flat_len hE];exact Nat.le_refl _)]
 ·subst e1 e6
  simp only
  by_cases h0:l2.length=0
  ·rw [if_pos h0,if_pos (by simp [AHeap.gen,e2])]
   have:l2=[]:=List.eq_nil_of_length_eq_zero h0
   subst this
   refine w _ _ [id] ?_ (HFrame.refl hlt)
   rw [List.append_nil]
   exact .inr ⟨id,g,off,vs,rfl,e2,e3,e4,e5,rfl⟩
  ·rw [if_neg h0,if_pos ⟨trivial,e3,hb,hcs⟩]
   simp only [e2]
   rw [if_pos ⟨trivial,by omega⟩]
   refine w _ _ [id] (.inr ⟨id,g+1,0,_,by rw [List.length_append],AHeap.get_set_same _ _ _,e3,?_,?_,rfl⟩) ⟨by simp,rfl,fun j hj hn=>AHeap.get_set_ne h _ (by simpa using hn),fun j hj=>.inl hj,hlt⟩
   ·rw [e5,List.length_append,List.length_append,flat_len hE,flat_len hE,Nat.add_mul];simp
   ·rw [e5,List.drop_zero,List.flatMap_append,List.take_of_length_le]
    rw [List.length_append,List.length_append,flat_len hE,flat_len hE,Nat.add_mul];exact Nat.le_refl _
theorem SlX.app1 (s:SlX h esz enc v l F) (hE:∀ a,(enc a).length=esz) (a:α) (hC:(enc a).all (·.cell)=true) {bytes:Nat} (hb:(l.length+1)*bytes≤1099511627776) {k:AVal→AHeap→Prop}
  (w:∀ v' h' F',SlX h' esz enc v' (l++[a]) F'→HFrame h h' F F'→k v' h'):AM.wpOp ((h.push (.cells 0 false (enc a))).app esz bytes v (.sl h.n 0 0 1 esz)) k:=by
 have f:=HFrame.push h (.cells 0 false (enc a)) s.lt
 refine SlX.app (s.frame (h':=h.push (.cells 0 false (enc a))) f.n fun j hj=>AHeap.get_push_ne h _ (by have:=s.lt j hj;omega)) (l2:=[a]) ?_ hE (fun b hb=>by rw [List.mem_singleton.1 hb];exact hC) (by simpa using hb) fun v' h' F' s' f'=>w v' h' F' s' (f.trans f')
 refine .inr ⟨h.n,0,0,enc a,false,rfl,AHeap.get_push_same _ _,by simp,by simp [hE],?_⟩
 simp [List.take_of_length_le,hE]
theorem flat_take (hE:∀ a,(enc a).length=esz) {m:Nat} (hm:m≤l.length):(l.flatMap enc).take (m*esz)=(l.take m).flatMap enc:=by
 have h2:((l.take m).flatMap enc++(l.drop m).flatMap enc).take (m*esz)=(l.take m).flatMap enc:=by
  rw [List.take_append_of_le_length (by rw [flat_len hE,List.length_take,Nat.min_eq_left hm];exact Nat.le_refl _),List.take_of_length_le (by rw [flat_len hE,List.length_take,Nat.min_eq_left hm];exact Nat.le_refl _)]
 rw [←List.flatMap_append,List.take_append_drop] at h2
 exact h2
theorem SlX.upto (s:SlX h esz enc v l F) (hE:∀ a,(enc a).length=esz) {m:Nat} (hm:m≤l.length) (k:IntKind):∃ v',slV h esz v none (some (.int k m))=some (v',h)∧SlX h esz enc v' (l.take m) F:=by
 rcases s with ⟨a,b,c⟩ | ⟨id,g,off,vs,a,b,c,d,e,f⟩
 ·subst a b c
  have:m=0:=by simpa using hm
  subst this
  exact ⟨.nils,rfl,.inl ⟨rfl,rfl,rfl⟩⟩
 ·subst a
  have h1:=Nat.mul_le_mul_right esz hm
  refine ⟨.sl id g off m esz,?_,.inr ⟨id,g,off,vs,by rw [List.length_take,Nat.min_eq_left hm],b,c,by rw [List.length_take,Nat.min_eq_left hm];omega,?_,f⟩⟩
  ·rw [AM.sl_st2 h (Int.natCast_nonneg _) (by omega),b,AM.slO_cells];rfl
  ·rw [List.length_take,Nat.min_eq_left hm,←flat_take hE hm,←e,List.take_take,Nat.min_eq_left h1]
theorem SlX.at1 {enc:α→AVal} (s:SlX h 1 (fun a=>[enc a]) v l F) {i:Nat} {a:α} (hi:l[i]?=some a) :
  ∃ id g off vs,v=.sl id g off l.length 1∧F=[id]∧h.get id=.cells g false vs∧id<h.n∧(∀ k:IntKind,ixV h 1 v (.int k (i:Int))=some (.ptr id g (off+i),h))∧vs[off+i]?=some (enc a)∧off+i+1≤vs.length ∧
   ∀ (h':AHeap) (b:α),h.n≤h'.n→h'.get id=.cells g false (vs.take (off+i)++[enc b]++vs.drop (off+i+1))→SlX h' 1 (fun a=>[enc a]) v (l.set i b) F:=by
 have hlt:=(List.getElem?_eq_some_iff.1 hi).1
 rcases s with ⟨_,b,_⟩ | ⟨id,g,off,vs,a1,b,c,d,e,f⟩
 ·subst b;simp at hi
 ·have fl:∀ l:List α,l.flatMap (fun a=>[enc a])=l.map enc:=fun l=>by induction l<;>simp_all
  have hx:vs[off+i]?=some (enc a):=by
   have:((vs.drop off).take (l.length*1))[i]?=some (enc a):=by rw [e,fl,List.getElem?_map,hi];rfl
   rwa [List.getElem?_take,if_pos (by omega),List.getElem?_drop] at this
  refine ⟨id,g,off,vs,a1,f,b,c,?_,hx,by omega,fun h' y hn g'=>.inr ⟨id,g,off,_,by rw [a1,List.length_set],g',by omega,?_,?_,f⟩⟩
  ·intro k
   rw [a1]
   have:=AM.ix_sl (k:=k) (n:=(i:Int)) (len:=l.length) (esz:=1) (off:=off) h b (by omega) (by omega)
   simpa using this
  ·simp only [List.length_set,List.length_append,List.length_take,List.length_cons,List.length_nil,List.length_drop];omega
  ·have e7:vs.take (off+i)++[enc y]++vs.drop (off+i+1)=vs.set (off+i) (enc y):=by
    rw [List.set_eq_take_append_cons_drop,if_pos (by omega),List.append_assoc];rfl
   rw [e7,List.length_set,fl,List.map_set,←fl,←e,List.drop_set,if_neg (by omega),show off+i-off=i by omega]
   apply List.ext_getElem?
   intro m
   rw [List.getElem?_take,List.getElem?_set,List.getElem?_set,List.getElem?_take,List.length_take,List.length_drop]
   by_cases hm:m<l.length*1
   ·rw [if_pos hm]
    by_cases em:i=m
    ·subst em;rw [if_pos rfl,if_pos rfl,if_pos (by omega),if_pos (by omega)]
    ·rw [if_neg em,if_neg em,if_pos hm]
   ·rw [if_neg hm,if_neg (by omega),if_neg hm]
end
def All2 {α β:Type} (P:Nat→α→β→Prop) (l:List α) (m:List β):Prop:=l.length=m.length∧∀ n a b,l[n]?=some a→m[n]?=some b→P n a b
section
variable {α β:Type} {P Q:Nat→α→β→Prop} {l:List α} {m:List β}
theorem All2.nil:All2 P [] []:=⟨rfl,fun n a b h=>by simp at h⟩
theorem All2.right (s:All2 P l m) {n:Nat} {b:β} (h:m[n]?=some b):∃ a,l[n]?=some a∧P n a b:=by
 have hn:=(List.getElem?_eq_some_iff.1 h).1
 have h1:l[n]?=some (l[n]'(by rw [s.1];exact hn)):=List.getElem?_eq_getElem _
 exact ⟨_,h1,s.2 n _ _ h1 h⟩
theorem All2.left (s:All2 P l m) {n:Nat} {a:α} (h:l[n]?=some a):∃ b,m[n]?=some b∧P n a b:=by
 have hn:=(List.getElem?_eq_some_iff.1 h).1
 have h1:m[n]?=some (m[n]'(by rw [←s.1];exact hn)):=List.getElem?_eq_getElem _
 exact ⟨_,h1,s.2 n _ _ h h1⟩
theorem All2.mono (s:All2 P l m) (i:∀ n a b,l[n]?=some a→m[n]?=some b→P n a b→Q n a b):All2 Q l m:=⟨s.1,fun n a b h1 h2=>i n a b h1 h2 (s.2 n a b h1 h2)⟩
theorem All2.snoc (s:All2 P l m) {a:α} {b:β} (p:P l.length a b):All2 P (l++[a]) (m++[b]):=by
 refine ⟨by simp [s.1],fun n x y h1 h2=>?_⟩
 by_cases hn:n<l.length
 ·rw [List.getElem?_append_left hn] at h1
  rw [List.getElem?_append_left (by rw [←s.1];exact hn)] at h2
  exact s.2 n x y h1 h2
 ·have hn2:=(List.getElem?_eq_some_iff.1 h1).1
  have:n=l.length:=by simp at hn2;omega
  subst this
  rw [List.getElem?_append_right (Nat.le_refl _)] at h1
  rw [List.getElem?_append_right (by rw [s.1];exact Nat.le_refl _)] at h2
  simp [s.1] at h1 h2
  subst h1 h2
  exact p
theorem All2.take (s:All2 P l m) (k:Nat):All2 P (l.take k) (m.take k):=by
 refine ⟨by simp [s.1],fun n x y h1 h2=>?_⟩
 rw [List.getElem?_take] at h1 h2
 split at h1
 ·rename_i hk;rw [if_pos hk] at h2;exact s.2 n x y h1 h2
 ·cases h1
theorem All2.upd (s:All2 P l m) {k:Nat} {b:β} {a':α} {b':β} (hb:m[k]?=some b) (p:Q k a' b') (i:∀ n a b,n≠k→P n a b→Q n a b):All2 Q (l.set k a') (m.set k b'):=by
 refine ⟨by simp [s.1],fun n x y h1 h2=>?_⟩
 by_cases e:k=n
 ·subst e
  have hk:=(List.getElem?_eq_some_iff.1 hb).1
  rw [List.getElem?_set_self (by rw [s.1];exact hk)] at h1
  rw [List.getElem?_set_self hk] at h2
  cases h1;cases h2;exact p
 ·rw [List.getElem?_set_ne e] at h1 h2
  exact i n x y (Ne.symm e) (s.2 n x y h1 h2)
theorem set_self {α:Type} {l:List α} {k:Nat} {a:α} (h:l[k]?=some a):l.set k a=l:=by
 apply List.ext_getElem?
 intro n
 by_cases e:k=n
 ·subst e;rw [List.getElem?_set_self (List.getElem?_eq_some_iff.1 h).1,h]
 ·rw [List.getElem?_set_ne e]
theorem All2.updR (s:All2 P l m) {k:Nat} {a:α} {b b':β} (ha:l[k]?=some a) (hb:m[k]?=some b) (p:Q k a b') (i:∀ n a b,n≠k→P n a b→Q n a b):All2 Q l (m.set k b'):=by
 have:=s.upd (Q:=Q) (a':=a) hb p i
 rwa [set_self ha] at this
end
inductive Tag where
 | no | ro | d | globals | things | gs | trace
 | rt (g:Nat) | frs (g:Nat)
 | fr (g k:Nat) | slots (g k:Nat) | lates (g k:Nat)
 | words (n:Nat) | chan (n:Nat)
 deriving DecidableEq
structure Chg (T:Tag→Prop) (h h':AHeap) (K K':Nat→Tag):Prop where
 n:h.n≤h'.n
 g:h'.g=h.g
 k:∀ j,j<h.n→K' j=K j
 get:∀ j,j<h.n→¬ T (K j)→h'.get j=h.get j
section
variable {T T1 T2:Tag→Prop} {h h1 h':AHeap} {K K1 K':Nat→Tag}
theorem Chg.refl (T:Tag→Prop) (h:AHeap) (K:Nat→Tag):Chg T h h K K:=⟨Nat.le_refl _,rfl,fun _ _=>rfl,fun _ _ _=>rfl⟩
theorem Chg.trans (a:Chg T h h1 K K1) (b:Chg T h1 h' K1 K'):Chg T h h' K K' :=
 ⟨Nat.le_trans a.n b.n,b.g.trans a.g,fun j hj=>(b.k j (Nat.lt_of_lt_of_le hj a.n)).trans (a.k j hj),fun j hj t=>(b.get j (Nat.lt_of_lt_of_le hj a.n) (by rw [a.k j hj];exact t)).trans (a.get j hj t)⟩
theorem Chg.wide (a:Chg T h h' K K') (i:∀ t,T t→T1 t):Chg T1 h h' K K':=⟨a.n,a.g,a.k,fun j hj t=>a.get j hj fun q=>t (i _ q)⟩
theorem Chg.of {A A':List Nat} (F:HFrame h h' A A') (i:∀ j,j∈A→j<h.n→T (K j)):Chg T h h' K K:=⟨F.n,F.g,fun _ _=>rfl,fun j hj t=>F.get j hj fun hm=>t (i j hm hj)⟩
theorem Chg.set (a:Chg T h h1 K K1) {i:Nat} (d:i<h.n→T (K i)) (o:AObj):Chg T h (h1.set i o) K K1 :=
 ⟨a.n,a.g,a.k,fun j hj t=>by
  rw [AHeap.get_set_ne]
  ·exact a.get j hj t
  ·rintro rfl;exact t (d hj)⟩
theorem Chg.push (a:Chg T h h1 K K1) (o:AObj):Chg T h (h1.push o) K K1 :=
 ⟨by have:=a.n;simp;omega,a.g,a.k,fun j hj t=>by rw [AHeap.get_push_ne _ _ (by have:=a.n;omega)];exact a.get j hj t⟩
theorem Chg.left (a:Chg T h h1 K K1) {A A':List Nat} (F:HFrame h1 h' A A') (i:∀ j,j∈A→j<h.n→T (K j)):Chg T h h' K K1 :=
 ⟨Nat.le_trans a.n F.n,F.g.trans a.g,a.k,fun j hj t=>(F.get j (Nat.lt_of_lt_of_le hj a.n) fun hm=>t (i j hm hj)).trans (a.get j hj t)⟩
theorem Chg.tag (a:Chg T h h1 K K1) {K2:Nat→Tag} (i:∀ j,j<h.n→K2 j=K j):Chg T h h1 K K2:=⟨a.n,a.g,i,a.get⟩
theorem Chg.keep (a:Chg T h h' K K') {j:Nat} (hj:j<h.n) {t:Tag} (hK:K j=t) (nt:¬ T t):h'.get j=h.get j:=a.get j hj (by rw [hK];exact nt)
def Ro (h:AHeap) (K:Nat→Tag) (φ:AHeap→Prop):Prop:=∀ h',h.n≤h'.n→(∀ j,j<h.n→K j=.ro→h'.get j=h.get j)→φ h'
theorem Ro.now {φ:AHeap→Prop} (r:Ro h K φ):φ h:=r h (Nat.le_refl _) fun _ _ _=>rfl
theorem Ro.keep {φ:AHeap→Prop} (r:Ro h K φ) (c:Chg T h h' K K') (nt:¬ T .ro):Ro h' K' φ:=fun h'' hn hk =>
 r h'' (Nat.le_trans c.n hn) fun j hj e=>(hk j (Nat.lt_of_lt_of_le hj c.n) ((c.k j hj).trans e)).trans (c.keep hj e nt)
theorem Ro.at {φ:AHeap→Prop} (r:Ro h K φ) (c:Chg T h h' K K') (nt:¬ T .ro):φ h':=(r.keep c nt).now
def Ow (h:AHeap) (K:Nat→Tag) (t:Tag) (esz:Nat) {α:Type} (enc:α→List AVal) (v:AVal) (l:List α):Prop:=∃ F,SlX h esz enc v l F∧∀ j,j∈F→K j=t
variable {α:Type} {enc:α→List AVal} {esz:Nat} {v:AVal} {l:List α} {t:Tag}
theorem Ow.keep (s:Ow h K t esz enc v l) (c:Chg T h h' K K') (nt:¬ T t):Ow h' K' t esz enc v l:=by
 obtain ⟨F,s,k⟩:=s
 exact ⟨F,s.frame c.n fun j hj=>c.keep (s.lt j hj) (k j hj) nt,fun j hj=>(c.k j (s.lt j hj)).trans (k j hj)⟩
theorem Ow.len (s:Ow h K t esz enc v l) (h':AHeap):lenV h' v=some (.int .i64 l.length,h'):=by obtain ⟨F,s,_⟩:=s;exact s.len h'
theorem Ow.cells (s:Ow h K t esz enc v l):v.cells=[v]∧v.cell=true:=by obtain ⟨F,s,_⟩:=s;exact s.cells
theorem Ow.beq (s:Ow h K t esz enc v l):v.beq v=true:=by obtain ⟨F,s,_⟩:=s;exact s.beq
theorem Ow.rd (s:Ow h K t esz enc v l):SlRd h esz enc v l:=by obtain ⟨F,s,_⟩:=s;exact s.rd
theorem Ow.nil:Ow h K t esz enc .nils ([]:List α):=⟨[],SlX.nil,by simp⟩
theorem Ow.upto (s:Ow h K t esz enc v l) (hE:∀ a,(enc a).length=esz) {m:Nat} (hm:m≤l.length) (k:IntKind):∃ v',slV h esz v none (some (.int k m))=some (v',h)∧Ow h K t esz enc v' (l.take m):=by
 obtain ⟨F,s,q⟩:=s
 obtain ⟨v',a,b⟩:=s.upto hE hm k
 exact ⟨v',a,F,b,q⟩
theorem Ow.app1 (s:Ow h K t esz enc v l) (hE:∀ a,(enc a).length=esz) (a:α) (hC:(enc a).all (·.cell)=true) {bytes:Nat} (hb:(l.length+1)*bytes≤1099511627776) {k:AVal→AHeap→Prop}
  (w:∀ v' h' K',Ow h' K' t esz enc v' (l++[a])→Chg (·=t) h h' K K'→(∀ j,K' j=K j∨(h.n≤j∧j<h'.n))→k v' h'):AM.wpOp ((h.push (.cells 0 false (enc a))).app esz bytes v (.sl h.n 0 0 1 esz)) k:=by
 obtain ⟨F,s,q⟩:=s
 refine s.app1 hE a hC hb fun v' h' F' s' f=>w v' h' (fun j=>if h.n≤j∧j∈F' then t else K j) ⟨F',s',fun j hj=>?_⟩ ((Chg.of f fun j hj _=>q j hj).tag fun j hj=>if_neg (by omega)) fun j=>?_
 ·rcases f.new j hj with e | e
  ·have:=s.lt j e
   show (if _ then _ else _)=_
   rw [if_neg (by omega)];exact q j e
  ·exact if_pos ⟨e,hj⟩
 ·by_cases c:h.n≤j∧j∈F'
  ·exact .inr ⟨c.1,f.lt j c.2⟩
  ·exact .inl (if_neg c)
theorem Ow.at1 {enc:α→AVal} (s:Ow h K t 1 (fun a=>[enc a]) v l) {i:Nat} {a:α} (hi:l[i]?=some a) :
  ∃ id g off vs,v=.sl id g off l.length 1∧K id=t∧h.get id=.cells g false vs∧id<h.n∧(∀ k:IntKind,ixV h 1 v (.int k (i:Int))=some (.ptr id g (off+i),h))∧vs[off+i]?=some (enc a)∧off+i+1≤vs.length ∧
   ∀ (h':AHeap) (b:α),h.n≤h'.n→h'.get id=.cells g false (vs.take (off+i)++[enc b]++vs.drop (off+i+1))→Ow h' K t 1 (fun a=>[enc a]) v (l.set i b):=by
 obtain ⟨F,s,q⟩:=s
 obtain ⟨id,g,off,vs,e1,e2,e3,e4,e5,e6,e7,e8⟩:=s.at1 hi
 exact ⟨id,g,off,vs,e1,q id (by simp [e2]),e3,e4,e5,e6,e7,fun h' b hn hg=>⟨F,e8 h' b hn hg,q⟩⟩
theorem Ro.of {F:List Nat} (s:SlX h' esz enc v l F) (hK:∀ j,j∈F→K j=.ro):Ro h' K fun h=>SlRd h esz enc v l:=fun h'' hn hk=>(s.frame hn fun j hj=>hk j (s.lt j hj) (hK j hj)).rd
theorem Ro.nil:Ro h K fun h=>SlRd h esz enc .nils ([]:List α):=fun _ _ _=>.inl ⟨rfl,rfl⟩
end
end Go.Proofs.Ytnbnpjhlflcjeaa.Id