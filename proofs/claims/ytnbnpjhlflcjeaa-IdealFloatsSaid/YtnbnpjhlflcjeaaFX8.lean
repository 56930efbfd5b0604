/-
 What the functions of this seat do,on the machine: lemmas for the laws.
-/
import Derived.Test.YtnbnpjhlflcjeaaFX6
import Derived.Test.YtnbnpjhlflcjeaaFX7
set_option linter.unusedSimpArgs false
set_option linter.unusedVariables false
set_option maxRecDepth 100000
attribute [local irreducible] Go.AM.wp Go.AM.wpIs Go.AM.wpTr Go.AM.opI Go.AM.gI Go.AM.cI Go.AM.trI Go.AM.callI Go.AM.fnI Go.AM.yldI Go.AM.rangeI Go.AM.rangeC Go.AM.YldP Go.AM.asgQ Go.AM.roundQ Go.AM.rangeQ Go.AM.trG Go.AM.trOp Go.AM.trCall Go.AM.seqC Go.AM.loopI
namespace Go.Proofs.Ytnbnpjhlflcjeaa.Id.V
open Go Go.AM Go.Proofs.Ytnbnpjhlflcjeaa.AmGF
open Nat renaming reduceAdd → qA,reduceLeDiff → qB,reduceEqDiff → qC,reduceLT → qE
open Int renaming reduceToNat → qD,reduceEq → qG,reduceLT → qH,reduceLE → qI
def newF (p:PProg) (sl:List Int) (i:PIns):Int :=
 if i.b<0∨p.types.length≤i.b∨(p.types[i.b.toNat]?.map (·.1))≠some (decide (i.op=27)) then 14 else if i.op=27 then areF sl [(i.a,16+i.b),(i.c,0)] else areF sl [(i.a,16+i.b)]
def lenF (p:PProg) (sl:List Int) (i:PIns):Int:=if (objF p sl i.b true).1≠0 then (objF p sl i.b true).1 else areF sl [(i.a,0)]
def globF (p:PProg) (sl:List Int) (slot glob:Int):Int:=if glob<0∨p.globals.length≤glob then 15 else areF sl [(slot,(p.globals[glob.toNat]?).getD 0)]
def wordF (p:PProg) (sl:List Int) (i:PIns) (object slot:Int) (array:Bool):Int :=
 if (objF p sl object array).1≠0 then (objF p sl object array).1
 else if array=true then areF sl [(slot,(objF p sl object array).2.2.headD 0),(i.c,0)]
 else if i.c<0∨(objF p sl object array).2.2.length≤i.c then 14 else areF sl [(slot,(((objF p sl object array).2.2)[i.c.toNat]?).getD 0)]
def memF (p:PProg) (sl:List Int) (i:PIns):Int :=
 if orB i.op [26,27]=true then newF p sl i
 else if orB i.op [28]=true then lenF p sl i
 else if orB i.op [33,34]=true then (if i.op=34 then globF p sl i.b i.a else globF p sl i.a i.b)
 else if orB i.op [30,32]=true then wordF p sl i i.a i.b (orB i.op [31,32]) else wordF p sl i i.b i.a (orB i.op [31,32])
def Ht (p:PProg):Prop:=∀ t,t∈p.types→t.2≠[]
theorem objF_ne {p:PProg} {sl:List Int} (H:Ht p) (Hk:Hs p sl) {n:Int} {arr:Bool} (e:(objF p sl n arr).1=0):(objF p sl n arr).2.2≠[]∧(objF p sl n arr).2∈p.types:=by
 unfold objF at e ⊢
 cases hk:slotK sl n with
 | none=>rw [hk] at e;simp at e
 | some k =>
  rw [hk] at e
  simp only at e ⊢
  by_cases h1:k<16∨64≤k
  ·rw [if_pos h1] at e;simp at e
  ·rw [if_neg h1] at e ⊢
   have hkt:=kind_ptr ((Hk.at hk).resolve_left (by omega)) (by omega) (by omega)
   obtain ⟨t,ht⟩:∃ t,p.types[(k-16).toNat]?=some t:=⟨_,List.getElem?_eq_getElem (by omega)⟩
   rw [ht] at e ⊢
   simp only at e ⊢
   by_cases h2:t.1≠arr
   ·rw [if_pos h2] at e;simp at e
   ·rw [if_neg h2]
    exact ⟨H t (List.mem_of_getElem? ht),List.mem_of_getElem? ht⟩
set_option maxHeartbeats 4000000 in
theorem memory {h:AHeap} {c:Nat} {p:PProg} {f:PFunc} {i:PIns} (C:CkR h c p f i) (H:Hs p f.slots) (T:Ht p) (hT:p.types.length≤32) {row:List AVal} (R:InsR h i row) :
  CallP AP 81 [.ptr c 0 0,.agg row] h fun r h'=>HFrame h h' [] []∧r=.int .i64 (memF p f.slots i):=by
 obtain ⟨_,lw,rfl,L⟩:=R
 refine callP (rfl:Tr.get AP 81=some A81) ?_
 generalize hQ:(fun (r:AVal) (h':AHeap)=>_)=Q
 have cl:=SlIn.cellv L
 have f0:=(HFrame.refl (h:=h) (F:=[]) (by simp)).pushTmp (.cells 0 false [.int .i64 i.op,.int .i64 i.a,.int .i64 i.b,.int .i64 i.c,.int .u64 i.imm,lw])
 have C0:=C
 obtain ⟨tv,gv,fv,sv,rv,cv,at_,lv,g,lt,s1,s2,s3,s4,s5,s6,hi,s7⟩:=C
 have l1:=s1.len
 have l2:=s2.len
 simp -implicitDefEqProofs (disch:=first|exact dz _|fail) only [RGB,↓qJ,qK,qL,qA,qB,qC,qD,qE,↓reduceIte,qG,qH,qI,cl]
 have gB:(h.push (.cells 0 false [.int .i64 i.op,.int .i64 i.a,.int .i64 i.b,.int .i64 i.c,.int .u64 i.imm,lw])).get h.n=_:=AHeap.get_push_same _ _
 have gC:=(f0.get c lt (by simp)).trans g
 have hn0:h.n<(h.push (.cells 0 false [.int .i64 i.op,.int .i64 i.a,.int .i64 i.b,.int .i64 i.c,.int .u64 i.imm,lw])).n:=by simp
 generalize h.push (.cells 0 false [.int .i64 i.op,.int .i64 i.a,.int .i64 i.b,.int .i64 i.c,.int .u64 i.imm,lw])=h1 at *
 have C1:=C0.keep f0
 have n1:=f0.n
 have k1:∀ j,j<h.n→h1.get j=h.get j:=fun j hj=>f0.get j hj (by simp)
 refine cI_or (t:=16) (s:=15) (x:=i.op) (by decide) [(18,27)] (by simp -implicitDefEqProofs (disch:=first|exact dz _|fail) only [↓qJ,qK,qL,qA,qB,qC,qD,qE,↓reduceIte,qG,qH,qI]) (by simp -implicitDefEqProofs (disch:=first|exact dz _|fail) only [↓qJ,qK,qL,qA,qB,qC,qD,qE,↓reduceIte,qG,qH,qI]) (by decide) ?_
 intro e' ht hk
 have e0':Env.val e' 0=.ptr c 0 0:=(hk 0 (by decide) (by decide)).trans (by simp -implicitDefEqProofs (disch:=first|exact dz _|fail) only [↓qJ,qK,qL,qA,qB,qC,qD,qE,↓reduceIte,qG,qH,qI])
 have e3':Env.val e' 3=.ptr h.n 0 0:=(hk 3 (by decide) (by decide)).trans (by simp -implicitDefEqProofs (disch:=first|exact dz _|fail) only [↓qJ,qK,qL,qA,qB,qC,qD,qE,↓reduceIte,qG,qH,qI])
 have e15':Env.val e' 15=.int .i64 i.op:=(hk 15 (by decide) (by decide)).trans (by simp -implicitDefEqProofs (disch:=first|exact dz _|fail) only [↓qJ,qK,qL,qA,qB,qC,qD,qE,↓reduceIte,qG,qH,qI])
 clear hk
 try clear e0
 have e0:=e0'
 clear e0'
 try clear e3
 have e3:=e3'
 clear e3'
 try clear e15
 have e15:=e15'
 clear e15'
 simp -implicitDefEqProofs (disch:=first|exact dz _|fail) only [↓qJ,qK,qL,qA,qB,qC,qD,qE,↓reduceIte,qG,qH,qI,ht]
 refine cI_bool (fun hb=>?_) (fun hb=>?_)
 ·have m1:orB i.op [26,27]=true:=hb
  clear hb ht
  have hm:memF p f.slots i=newF p f.slots i:=by rw [memF,if_pos m1]
  rw [hm] at hQ
  clear hm
  by_cases hin:0≤i.b∧i.b<p.types.length
  ·have d1:decide ((p.types.length:Int)≤i.b)=false:=decide_eq_false (by omega)
   have d2:decide (i.b<0)=false:=decide_eq_false (by omega)
   obtain ⟨t,ht⟩:∃ t,p.types[i.b.toNat]?=some t:=⟨_,List.getElem?_eq_getElem (by omega)⟩
   obtain ⟨j,g2,off,vs,ro,row,x1,x2,x3,x4,x5,x6,fl,rfl,xl⟩:=(s1.mono (h':=h1) (R':=TypeR h) (fun _ _ q=>q) n1 k1).ix ht .i64
   rw [show ((i.b.toNat:Nat):Int)=i.b by omega] at x1
   obtain ⟨p1,p2⟩:=two_of x5
   have hw:IntKind.i64.wrap (16+i.b)=16+i.b:=wrap64 (by omega) (by omega)
   have hnew:newF p f.slots i=if t.1≠decide (i.op=27) then 14 else if i.op=27 then areF f.slots [(i.a,16+i.b),(i.c,0)] else areF f.slots [(i.a,16+i.b)]:=by
    rw [newF,ht]
    have e1:¬ i.b<0:=by omega
    have e2:¬ (p.types.length:Int)≤i.b:=by omega
    simp only [e1,e2,false_or,Option.map_some,ne_eq,Option.some.injEq]
   simp -implicitDefEqProofs (disch:=first|exact dz _|fail) only [↓qJ,qK,qL,qA,qB,qC,qD,qE,↓reduceIte,qG,qH,qI,e0,e3,gB,gC,l1,d1,d2,x1,x2,p1,p2]
   refine cI_bool (fun hc=>?_) (fun hc=>?_)
   ·simp -implicitDefEqProofs (disch:=first|exact dz _|fail) only [↓qJ,qK,qL,qA,qB,qC,qD,qE,↓reduceIte,qG,qH,qI]
    subst hQ
    exact ⟨f0,by rw [hnew,if_pos (by simpa using hc)]⟩
   ·simp -implicitDefEqProofs (disch:=first|exact dz _|fail) only [↓qJ,qK,qL,qA,qB,qC,qD,qE,↓reduceIte,qG,qH,qI,e0,e3,gB]
    have hc':¬ t.1≠decide (i.op=27):=by simpa using hc
    refine cI_bool (fun hd=>?_) (fun hd=>?_)
    ·simp only [decide_eq_true_eq] at hd
     simp -implicitDefEqProofs (disch:=first|exact dz _|fail) only [↓qJ,qK,qL,qA,qB,qC,qD,qE,↓reduceIte,qG,qH,qI,e0,e3,gB,a_buildSlice,List.range,List.range.loop,List.getD_cons_zero,Nat.mod_one,hw]
     refine callI_of (are2 C1 i.a (16+i.b) i.c 0) ?_
     rintro r h2 ⟨f12,rfl⟩
     simp -implicitDefEqProofs (disch:=first|exact dz _|fail) only [↓qJ,qK,qL,qA,qB,qC,qD,qE,↓reduceIte,qG,qH,qI]
     subst hQ
     exact ⟨f0.trans f12,by rw [hnew,if_neg hc',if_pos hd]⟩
    ·simp only [decide_eq_false_iff_not] at hd
     simp -implicitDefEqProofs (disch:=first|exact dz _|fail) only [↓qJ,qK,qL,qA,qB,qC,qD,qE,↓reduceIte,qG,qH,qI,e0,e3,gB,a_buildSlice,List.range,List.range.loop,List.getD_cons_zero,Nat.mod_one,hw]
     refine callI_of (are1 C1 i.a (16+i.b)) ?_
     rintro r h2 ⟨f12,rfl⟩
     simp -implicitDefEqProofs (disch:=first|exact dz _|fail) only [↓qJ,qK,qL,qA,qB,qC,qD,qE,↓reduceIte,qG,qH,qI]
     subst hQ
     exact ⟨f0.trans f12,by rw [hnew,if_neg hc',if_neg hd]⟩
  ·have hnew:newF p f.slots i=14:=if_pos (by omega)
   rcases Int.lt_or_le i.b 0 with hlt | hle
   ·have d1:decide ((p.types.length:Int)≤i.b)=false:=decide_eq_false (by omega)
    have d2:decide (i.b<0)=true:=decide_eq_true (by omega)
    simp -implicitDefEqProofs (disch:=first|exact dz _|fail) only [↓qJ,qK,qL,qA,qB,qC,qD,qE,↓reduceIte,qG,qH,qI,e0,e3,gB,gC,l1,d1,d2]
    subst hQ
    exact ⟨f0,by rw [hnew]⟩
   ·have d1:decide ((p.types.length:Int)≤i.b)=true:=decide_eq_true (by omega)
    simp -implicitDefEqProofs (disch:=first|exact dz _|fail) only [↓qJ,qK,qL,qA,qB,qC,qD,qE,↓reduceIte,qG,qH,qI,e0,e3,gB,gC,l1,d1]
    subst hQ
    exact ⟨f0,by rw [hnew]⟩
 have m1:orB i.op [26,27]=false:=hb
 clear hb ht
 simp -implicitDefEqProofs (disch:=first|exact dz _|fail) only [↓qJ,qK,qL,qA,qB,qC,qD,qE,↓reduceIte,qG,qH,qI,e15]
 refine cI_bool (fun hb=>?_) (fun hb=>?_)
 ·have m2:orB i.op [28]=true:=(Bool.or_false _).trans hb
  clear hb
  have hm:memF p f.slots i=lenF p f.slots i:=by rw [memF,if_neg (by simp [m1]),if_pos m2]
  rw [hm] at hQ
  clear hm
  simp -implicitDefEqProofs (disch:=first|exact dz _|fail) only [↓qJ,qK,qL,qA,qB,qC,qD,qE,↓reduceIte,qG,qH,qI,e0,e3,gB]
  refine callI_of (object C1 H i.b true) ?_
  rintro r h2 ⟨f12,row,rfl,fl,rfl,xl⟩
  have cf:=SlIn.cellv xl
  simp -implicitDefEqProofs (disch:=first|exact dz _|fail) only [↓qJ,qK,qL,qA,qB,qC,qD,qE,↓reduceIte,qG,qH,qI,e0,e3,cf]
  have f2:=(f0.trans f12).pushTmp (.cells 0 false [.bool (objF p f.slots i.b true).2.1,fl])
  have fT:=((f0.trans f12).pushTmp (.cells 0 false [.bool false,.nils])).setTmp (i:=h2.n) (f0.trans f12).n (.cells 0 false [.bool (objF p f.slots i.b true).2.1,fl])
  refine cI_bool (fun hc=>?_) (fun hc=>?_)
  ·have hc':(objF p f.slots i.b true).1≠0:=by simpa using hc
   simp -implicitDefEqProofs (disch:=first|exact dz _|fail) only [↓qJ,qK,qL,qA,qB,qC,qD,qE,↓reduceIte,qG,qH,qI]
   subst hQ
   exact ⟨fT,by rw [lenF,if_pos hc']⟩
  ·have hc':¬ (objF p f.slots i.b true).1≠0:=by simpa using hc
   have gB2:=(f12.get h.n hn0 (by simp)).trans gB
   have hn2:h.n<h2.n:=by have:=f12.n;omega
   simp -implicitDefEqProofs (disch:=first|exact dz _|fail) only [↓qJ,qK,qL,qA,qB,qC,qD,qE,↓reduceIte,qG,qH,qI,e0,e3,gB2,a_buildSlice,List.range,List.range.loop,List.getD_cons_zero,Nat.mod_one]
   refine callI_of (are1 (C0.keep fT) i.a 0) ?_
   rintro r h3 ⟨f23,rfl⟩
   simp -implicitDefEqProofs (disch:=first|exact dz _|fail) only [↓qJ,qK,qL,qA,qB,qC,qD,qE,↓reduceIte,qG,qH,qI]
   subst hQ
   exact ⟨fT.trans f23,by rw [lenF,if_neg hc']⟩
 have m2:orB i.op [28]=false:=(Bool.or_false _).trans hb
 clear hb
 simp -implicitDefEqProofs (disch:=first|exact dz _|fail) only [↓qJ,qK,qL,qA,qB,qC,qD,qE,↓reduceIte,qG,qH,qI,e15]
 refine cI_or (t:=87) (s:=15) (x:=i.op) (by decide) [(89,34)] (by simp -implicitDefEqProofs (disch:=first|exact dz _|fail) only [↓qJ,qK,qL,qA,qB,qC,qD,qE,↓reduceIte,qG,qH,qI,e0,e3,e15]) (by simp -implicitDefEqProofs (disch:=first|exact dz _|fail) only [↓qJ,qK,qL,qA,qB,qC,qD,qE,↓reduceIte,qG,qH,qI,e0,e3,e15]) (by decide) ?_
 intro e' ht hk
 have e0':Env.val e' 0=.ptr c 0 0:=(hk 0 (by decide) (by decide)).trans (by simp -implicitDefEqProofs (disch:=first|exact dz _|fail) only [↓qJ,qK,qL,qA,qB,qC,qD,qE,↓reduceIte,qG,qH,qI,e0,e3,e15])
 have e3':Env.val e' 3=.ptr h.n 0 0:=(hk 3 (by decide) (by decide)).trans (by simp -implicitDefEqProofs (disch:=first|exact dz _|fail) only [↓qJ,qK,qL,qA,qB,qC,qD,qE,↓reduceIte,qG,qH,qI,e0,e3,e15])
 have e15':Env.val e' 15=.int .i64 i.op:=(hk 15 (by decide) (by decide)).trans (by simp -implicitDefEqProofs (disch:=first|exact dz _|fail) only [↓qJ,qK,qL,qA,qB,qC,qD,qE,↓reduceIte,qG,qH,qI,e0,e3,e15])
 clear hk
 try clear e0
 have e0:=e0'
 clear e0'
 try clear e3
 have e3:=e3'
 clear e3'
 try clear e15
 have e15:=e15'
 clear e15'
 simp -implicitDefEqProofs (disch:=first|exact dz _|fail) only [↓qJ,qK,qL,qA,qB,qC,qD,qE,↓reduceIte,qG,qH,qI,ht]
 refine cI_bool (fun hb=>?_) (fun hb=>?_)
 ·have m3:orB i.op [33,34]=true:=hb
  clear hb ht
  simp -implicitDefEqProofs (disch:=first|exact dz _|fail) only [↓qJ,qK,qL,qA,qB,qC,qD,qE,↓reduceIte,qG,qH,qI,e0,e3,gB]
  have hm:memF p f.slots i=globF p f.slots (if i.op=34 then i.b else i.a) (if i.op=34 then i.a else i.b):=by
   rw [memF,if_neg (by simp [m1]),if_neg (by simp [m2]),if_pos m3];split<;>rfl
  rw [hm] at hQ
  clear hm
  refine AM.cI_cut (fun e' h'=>h'=h1∧e'.val 0=.ptr c 0 0∧e'.val 3=.ptr h.n 0 0∧e'.val 7=.int .i64 (if i.op=34 then i.b else i.a)∧e'.val 8=.int .i64 (if i.op=34 then i.a else i.b)) ?_ ?_
  ·generalize (if i.op=34 then i.b else i.a)=s at *
   generalize (if i.op=34 then i.a else i.b)=g0 at *
   clear e0 e3 e15
   rintro e h' ⟨hh,e0,e3,e7,e8⟩
   subst hh
   by_cases hin:0≤g0∧g0<p.globals.length
   ·have d1:decide ((p.globals.length:Int)≤g0)=false:=decide_eq_false (by omega)
    have d2:decide (g0<0)=false:=decide_eq_false (by omega)
    obtain ⟨k,hk⟩:∃ k,p.globals[g0.toNat]?=some k:=⟨_,List.getElem?_eq_getElem (by omega)⟩
    obtain ⟨j,g2,off,vs,ro,x1,x2,x3,x5⟩:=SlIn.ixI (s2.mono n1 k1) hin.1 hk
    simp -implicitDefEqProofs (disch:=first|exact dz _|fail) only [↓qJ,qK,qL,qA,qB,qC,qD,qE,↓reduceIte,qG,qH,qI,e0,e3,e7,e8,gB,gC,l2,d1,d2,x1,x2,x5,a_buildSlice,List.range,List.range.loop,List.getD_cons_zero,Nat.mod_one]
    refine callI_of (are1 C1 s k) ?_
    rintro r h3 ⟨f23,rfl⟩
    simp -implicitDefEqProofs (disch:=first|exact dz _|fail) only [↓qJ,qK,qL,qA,qB,qC,qD,qE,↓reduceIte,qG,qH,qI]
    subst hQ
    exact ⟨f0.trans f23,by rw [globF,if_neg (by omega),hk];rfl⟩
   ·have hg:globF p f.slots s g0=15:=if_pos (by omega)
    rcases Int.lt_or_le g0 0 with hlt | hle
    ·have d2:decide (g0<0)=true:=decide_eq_true (by omega)
     simp -implicitDefEqProofs (disch:=first|exact dz _|fail) only [↓qJ,qK,qL,qA,qB,qC,qD,qE,↓reduceIte,qG,qH,qI,e0,e3,e7,e8,gB,gC,l2,d2]
     subst hQ
     exact ⟨f0,by rw [hg]⟩
    ·have d1:decide ((p.globals.length:Int)≤g0)=true:=decide_eq_true (by omega)
     have d2:decide (g0<0)=false:=decide_eq_false (by omega)
     simp -implicitDefEqProofs (disch:=first|exact dz _|fail) only [↓qJ,qK,qL,qA,qB,qC,qD,qE,↓reduceIte,qG,qH,qI,e0,e3,e7,e8,gB,gC,l2,d1,d2]
     subst hQ
     exact ⟨f0,by rw [hg]⟩
  ·refine cI_bool (fun hc=>?_) (fun hc=>?_)
   ·simp only [decide_eq_true_eq] at hc
    simp -implicitDefEqProofs (disch:=first|exact dz _|fail) only [↓qJ,qK,qL,qA,qB,qC,qD,qE,↓reduceIte,qG,qH,qI,e0,e3,gB]
    simp only [if_pos hc]
    trivial
   ·simp only [decide_eq_false_iff_not] at hc
    simp -implicitDefEqProofs (disch:=first|exact dz _|fail) only [↓qJ,qK,qL,qA,qB,qC,qD,qE,↓reduceIte,qG,qH,qI,e0,e3,gB]
    simp only [if_neg hc]
    trivial
 have m3:orB i.op [33,34]=false:=hb
 clear hb ht
 simp -implicitDefEqProofs (disch:=first|exact dz _|fail) only [RGB,↓qJ,qK,qL,qA,qB,qC,qD,qE,↓reduceIte,qG,qH,qI,e0,e3,gB]
 have hm:memF p f.slots i=wordF p f.slots i (if orB i.op [30,32]=true then i.a else i.b) (if orB i.op [30,32]=true then i.b else i.a) (orB i.op [31,32]):=by
  rw [memF,if_neg (by simp [m1]),if_neg (by simp [m2]),if_neg (by simp [m3])];split<;>rfl
 rw [hm] at hQ
 clear hm
 have harr:(decide (i.op=31)||decide (i.op=32))=orB i.op [31,32]:=by simp [orB]
 have hst:(decide (i.op=30)||decide (i.op=32))=orB i.op [30,32]:=by simp [orB]
 rw [harr,hst]
 refine AM.cI_cut (fun e' h'=>h'=h1∧e'.val 0=.ptr c 0 0∧e'.val 3=.ptr h.n 0 0∧e'.val 9=.int .i64 (if orB i.op [30,32]=true then i.a else i.b)∧e'.val 10=.int .i64 (if orB i.op [30,32]=true then i.b else i.a)∧e'.val 11=.bool (orB i.op [31,32])) ?_ ?_
 ·generalize (if orB i.op [30,32]=true then i.a else i.b)=ob at *
  generalize (if orB i.op [30,32]=true then i.b else i.a)=s at *
  generalize orB i.op [31,32]=arr at *
  clear e0 e3 e15
  rintro e h' ⟨hh,e0,e3,e9,e10,e11⟩
  subst hh
  simp -implicitDefEqProofs (disch:=first|exact dz _|fail) only [↓qJ,qK,qL,qA,qB,qC,qD,qE,↓reduceIte,qG,qH,qI,e0,e3,e9,e11]
  refine callI_of (object C1 H ob arr) ?_
  rintro r h2 ⟨f12,row,rfl,fl,rfl,xl⟩
  have cf:=SlIn.cellv xl
  simp -implicitDefEqProofs (disch:=first|exact dz _|fail) only [↓qJ,qK,qL,qA,qB,qC,qD,qE,↓reduceIte,qG,qH,qI,e0,e3,cf]
  have fT:=((f0.trans f12).pushTmp (.cells 0 false [.bool false,.nils])).setTmp (i:=h2.n) (f0.trans f12).n (.cells 0 false [.bool (objF p f.slots ob arr).2.1,fl])
  refine cI_bool (fun hc=>?_) (fun hc=>?_)
  ·have hc':(objF p f.slots ob arr).1≠0:=by simpa using hc
   simp -implicitDefEqProofs (disch:=first|exact dz _|fail) only [↓qJ,qK,qL,qA,qB,qC,qD,qE,↓reduceIte,qG,qH,qI]
   subst hQ
   exact ⟨fT,by rw [wordF,if_pos hc']⟩
  ·have hc':¬ (objF p f.slots ob arr).1≠0:=by simpa using hc
   have gB2:=(f12.get h.n hn0 (by simp)).trans gB
   have hn2:h.n<h2.n:=by have:=f12.n;omega
   obtain ⟨t1,t2⟩:=objF_ne T H (n:=ob) (arr:=arr) (by simpa using hc)
   have fX:=(HFrame.refl (h:=h2) (F:=[]) (by simp)).pushTmp (.cells 0 false [.bool false,.nils])
   have fY:=fX.setTmp (i:=h2.n) (Nat.le_refl _) (.cells 0 false [.bool (objF p f.slots ob arr).2.1,fl])
   have xl2:=xl.keep fY
   have len:=xl.len
   simp -implicitDefEqProofs (disch:=first|exact dz _|fail) only [↓qJ,qK,qL,qA,qB,qC,qD,qE,↓reduceIte,qG,qH,qI,e0,e3,e10,e11]
   refine cI_bool (fun ha=>?_) (fun ha=>?_)
   ·subst ha
    obtain ⟨k,ks,hks⟩:=List.exists_cons_of_ne_nil t1
    have hk0:(objF p f.slots ob true).2.2[0]?=some k:=by rw [hks];rfl
    obtain ⟨j,g2,off,vs,ro,x1,x2,x3,x5⟩:=(xl2.rd hk0).ix1 (enc:=fun n=>.int .i64 n) hk0 .i64
    rw [show ((0:Nat):Int)=0 from rfl] at x1
    simp -implicitDefEqProofs (disch:=first|exact dz _|fail) only [↓qJ,qK,qL,qA,qB,qC,qD,qE,↓reduceIte,qG,qH,qI,e0,e3,e10,e11,gB2,x1,x2,x5,a_buildSlice,List.range,List.range.loop,List.getD_cons_zero,Nat.mod_one]
    refine trCall_of (are2 (C0.keep fT) s k i.c 0) ?_
    rintro r h3 ⟨f23,rfl⟩
    simp -implicitDefEqProofs (disch:=first|exact dz _|fail) only [↓qJ,qK,qL,qA,qB,qC,qD,qE,↓reduceIte,qG,qH,qI]
    subst hQ
    exact ⟨fT.trans f23,by rw [wordF,if_neg hc',if_pos rfl,hks];rfl⟩
   ·subst ha
    simp -implicitDefEqProofs (disch:=first|exact dz _|fail) only [RGB,↓qJ,qK,qL,qA,qB,qC,qD,qE,↓reduceIte,qG,qH,qI,e0,e3,e10,e11,gB2,len]
    refine cI_bool (fun hd=>?_) (fun hd=>?_)
    ·simp only [Bool.or_eq_true,decide_eq_true_eq] at hd
     simp -implicitDefEqProofs (disch:=first|exact dz _|fail) only [↓qJ,qK,qL,qA,qB,qC,qD,qE,↓reduceIte,qG,qH,qI]
     subst hQ
     exact ⟨fT,by rw [wordF,if_neg hc',if_neg (by simp),if_pos hd]⟩
    ·simp only [Bool.or_eq_false_iff,decide_eq_false_iff_not] at hd
     obtain ⟨k,hk⟩:∃ k,(objF p f.slots ob false).2.2[i.c.toNat]?=some k:=⟨_,List.getElem?_eq_getElem (by omega)⟩
     obtain ⟨j,g2,off,vs,ro,x1,x2,x3,x5⟩:=SlIn.ixI xl2 (by omega) hk
     simp -implicitDefEqProofs (disch:=first|exact dz _|fail) only [↓qJ,qK,qL,qA,qB,qC,qD,qE,↓reduceIte,qG,qH,qI,e0,e3,e10,e11,gB2,x1,x2,x5,a_buildSlice,List.range,List.range.loop,List.getD_cons_zero,Nat.mod_one]
     refine callI_of (are1 (C0.keep fT) s k) ?_
     rintro r h3 ⟨f23,rfl⟩
     simp -implicitDefEqProofs (disch:=first|exact dz _|fail) only [↓qJ,qK,qL,qA,qB,qC,qD,qE,↓reduceIte,qG,qH,qI]
     subst hQ
     exact ⟨fT.trans f23,by rw [wordF,if_neg hc',if_neg (by simp),if_neg (by omega),hk];rfl⟩
 ·refine cI_bool (fun hc=>?_) (fun hc=>?_)
  ·simp -implicitDefEqProofs (disch:=first|exact dz _|fail) only [↓qJ,qK,qL,qA,qB,qC,qD,qE,↓reduceIte,qG,qH,qI,e0,e3,gB]
   simp only [if_pos hc]
   trivial
  ·simp -implicitDefEqProofs (disch:=first|exact dz _|fail) only [↓qJ,qK,qL,qA,qB,qC,qD,qE,↓reduceIte,qG,qH,qI,e0,e3,gB]
   simp only [hc,Bool.false_eq_true,if_false]
   trivial
end Go.Proofs.Ytnbnpjhlflcjeaa.Id.V
namespace Go.Proofs.Ytnbnpjhlflcjeaa.Id.V
open Go Go.AM Go.Proofs.Ytnbnpjhlflcjeaa.AmGF
open Nat renaming reduceAdd → qA,reduceLeDiff → qB,reduceEqDiff → qC,reduceLT → qE
open Int renaming reduceToNat → qD,reduceEq → qG,reduceLT → qH,reduceLE → qI
theorem HFrame.non {h h':AHeap} {A B:List Nat} (f:HFrame h h' A B):HFrame h h' A []:=⟨f.n,f.g,f.get,fun j hj=>(nomatch hj),fun j hj=>(nomatch hj)⟩
def listF (sl slots kinds:List Int):Int:=if slots.length≠kinds.length then 16 else areF sl (slots.zip kinds)
theorem flat_take {l:List (Int×Int)} {i:Nat} {x:Int×Int} (h:l[i]?=some x):flat (l.take (i+1))=flat (l.take i)++[x.1,x.2]:=by
 rw [take_succ_of h,flat,List.flatMap_append];rfl
set_option maxHeartbeats 2000000 in
theorem list {h:AHeap} {c:Nat} {p:PProg} {f:PFunc} {i:PIns} (C:CkR h c p f i) {v w:AVal} {slots kinds:List Int} (L:SlIn h 1 encK v slots) (K:SlIn h 1 encK w kinds) (hl:slots.length<1000) :
  CallP AP 100 [.ptr c 0 0,v,w] h fun r h'=>HFrame h h' [] []∧r=.int .i64 (listF f.slots slots kinds):=by
 refine callP (rfl:Tr.get AP 100=some A100) ?_
 generalize hQ:(fun (r:AVal) (h':AHeap)=>_)=Q
 have l1:=L.len
 have l2:=K.len
 simp -implicitDefEqProofs (disch:=first|exact dz _|fail) only [↓qJ,qK,qL,qA,qB,qC,qD,qE,↓reduceIte,qG,qH,qI,l1,l2]
 refine cI_bool (fun hb=>?_) (fun hb=>?_)
 ·have hb':slots.length≠kinds.length:=by simp at hb;omega
  simp -implicitDefEqProofs (disch:=first|exact dz _|fail) only [↓qJ,qK,qL,qA,qB,qC,qD,qE,↓reduceIte,qG,qH,qI]
  subst hQ
  exact ⟨HFrame.refl (by simp),by rw [listF,if_pos hb']⟩
 ·have hb':slots.length=kinds.length:=by simp at hb;omega
  simp -implicitDefEqProofs (disch:=first|exact dz _|fail) only [↓qJ,qK,qL,qA,qB,qC,qD,qE,↓reduceIte,qG,qH,qI,l1]
  refine loopI_of (fun k e h'=>∃ (x:Nat) (u:AVal) (F:List Nat),k+x=slots.length∧e.val 0=.ptr c 0 0∧e.val 2=w∧e.val 7=u∧e.val 15=v∧e.val 16=.int .i64 slots.length∧e.val 17=.int .i64 x∧HFrame h h' [] F∧SlOf h' 1 encK u (flat ((slots.zip kinds).take x)) F) slots.length ?_ ?_
  ·refine ⟨0,.nils,[],by omega,?_,?_,?_,?_,?_,?_,HFrame.refl (by simp),SlOf.nil⟩<;>simp -implicitDefEqProofs (disch:=first|exact dz _|fail) only [↓qJ,qK,qL,qA,qB,qC,qD,qE,↓reduceIte,qG,qH,qI]<;>rfl
  ·rintro k e h' ⟨x,u,F,hk,e0,e2,e7,e15,e16,e17,fr,s⟩
   simp -implicitDefEqProofs (disch:=first|exact dz _|fail) only [↓qJ,qK,qL,qA,qB,qC,qD,qE,↓reduceIte,qG,qH,qI,e15,e16,e17]
   refine cI_bool (fun hc=>?_) (fun hc=>?_)
   ·simp only [decide_eq_true_eq] at hc
    obtain ⟨a,ha⟩:∃ a,slots[x]?=some a:=⟨_,List.getElem?_eq_getElem (by omega)⟩
    obtain ⟨b,hb2⟩:∃ a,kinds[x]?=some a:=⟨_,List.getElem?_eq_getElem (by omega)⟩
    have hz:(slots.zip kinds)[x]?=some (a,b):=by rw [List.getElem?_zip_eq_some];exact ⟨ha,hb2⟩
    obtain ⟨j,g,off,vs,ro,x1,x2,x3,x5⟩:=((L.keep fr).rd ha).ix1 (enc:=fun n=>.int .i64 n) ha .i64
    obtain ⟨j2,g2,off2,vs2,ro2,y1,y2,y3,y5⟩:=((K.keep fr).rd hb2).ix1 (enc:=fun n=>.int .i64 n) hb2 .i64
    have hw:IntKind.i64.wrap ((x:Int)+1)=((x+1:Nat):Int):=wrap64 (by omega) (by omega)
    simp -implicitDefEqProofs (disch:=first|exact dz _|fail) only [↓qJ,qK,qL,qA,qB,qC,qD,qE,↓reduceIte,qG,qH,qI,e0,e2,e7,e15,e16,e17,x1,x2,x5,y1,y2,y5,a_buildSlice,List.range,List.range.loop,List.getD_cons_zero,Nat.mod_one]
    have fP:=fr.pushTmp (.cells 0 false [.int .i64 a,.int .i64 b])
    have sP:SlOf (h'.push (.cells 0 false [.int .i64 a,.int .i64 b])) 1 encK u (flat ((slots.zip kinds).take x)) F:=s.frame (by simp) fun j hj=>AHeap.get_push_ne _ _ (by have:=s.lt j hj;omega)
    have len1:(flat ((slots.zip kinds).take x)).length≤2*x:=by rw [flat_len,List.length_take];omega
    refine opI_of (SlOf.app sP (l2:=[a,b]) (.inr ⟨h'.n,0,0,_,false,rfl,AHeap.get_push_same _ _,by simp,by simp,by simp⟩) (fun _=>rfl) (fun _=>rfl) (by simp only [List.length_cons,List.length_nil];omega) fun mv h4 F4 s4 f4=>?_)
    simp -implicitDefEqProofs (disch:=first|exact dz _|fail) only [↓qJ,qK,qL,qA,qB,qC,qD,qE,↓reduceIte,qG,qH,qI,e0,e2,e7,e15,e16,e17,hw]
    refine ⟨slots.length-(x+1),by omega,x+1,mv,F4,by omega,rfl,rfl,fP.trans f4,?_⟩
    rw [flat_take hz]
    exact s4
   ·have hx:x=slots.length:=by simp only [decide_eq_false_iff_not] at hc;omega
    have hlen:(slots.zip kinds).length=slots.length:=by rw [List.length_zip];omega
    rw [List.take_of_length_le (by omega)] at s
    simp -implicitDefEqProofs (disch:=first|exact dz _|fail) only [↓qJ,qK,qL,qA,qB,qC,qD,qE,↓reduceIte,qG,qH,qI,e0,e7]
    refine callI_of (are ((C.keep (HFrame.non fr))) (.inl s.rd) (by omega)) ?_
    rintro r h3 ⟨rfl,rfl⟩
    simp -implicitDefEqProofs (disch:=first|exact dz _|fail) only [↓qJ,qK,qL,qA,qB,qC,qD,qE,↓reduceIte,qG,qH,qI]
    subst hQ
    exact ⟨HFrame.non fr,by rw [listF,if_neg (by omega)]⟩
theorem SlIn.upto {h:AHeap} {v:AVal} {l:List Int} (L:SlIn h 1 encK v l) {n:Int} (h0:0≤n) (h1:n≤l.length):∃ v',slV h 1 v none (some (.int .i64 n))=some (v',h)∧SlIn h 1 encK v' (l.take n.toNat):=by
 rcases L with (⟨rfl,rfl⟩ | ⟨id,g,off,vs,ro,rfl,e1,e2,e3,e4⟩) | ⟨rfl,id,off,rfl,e1,e2⟩
 ·have:n=0:=by simp at h1;omega
  subst this
  exact ⟨.nils,rfl,.inl (.inl ⟨rfl,by simp⟩)⟩
 ·refine ⟨.sl id g off n.toNat 1,AM.sl_upto _ e1 h0 h1,.inl (.inr ⟨id,g,off,vs,ro,?_,e1,e2,?_,?_⟩)⟩
  ·rw [List.length_take,Nat.min_eq_left (by omega)]
  ·rw [List.length_take];omega
  ·have hm:∀ l:List Int,l.flatMap encK=l.map fun n=>.int .i64 n:=fun l=>by
    induction l with
    | nil=>rfl
    | cons a l ih=>rw [List.flatMap_cons,ih];rfl
   rw [hm] at e4
   rw [hm,List.map_take,←e4,List.take_take,List.length_take]
   congr 1
   omega
 ·have:n=0:=by simp at h1;omega
  subst this
  refine ⟨.sl id 0 off 0 1,?_,.inr ⟨by simp,id,off,rfl,e1,e2⟩⟩
  simp [slV,e2]
theorem SlOf.appIn {h:AHeap} {esz:Nat} {α:Type} {enc:α→List AVal} {v:AVal} {l:List α} {F:List Nat} (s:SlOf h esz enc v l F) {y:AVal} {l2:List α} (t:SlIn h esz enc y l2) (hE:∀ a,(enc a).length=esz) (hC:∀ a,(enc a).all (·.cell)=true) {bytes:Nat} (hb:(l.length+l2.length)*bytes≤1099511627776) {k:AVal→AHeap→Prop}
  (w:∀ v' h' F',SlOf h' esz enc v' (l++l2) F'→HFrame h h' F F'→k v' h'):AM.wpOp (h.app esz bytes v y) k:=by
 rcases t with t | ⟨rfl,id,off,rfl,e1,e2⟩
 ·exact SlOf.app s t hE hC hb w
 ·have e:h.app esz bytes v (.sl id 0 off 0 esz)=h.app esz bytes v .nils:=by
   have a1:h.elems esz (.sl id 0 off 0 esz)=some (0,[]):=by simp [AHeap.elems,e1,e2]
   have a2:h.elems esz .nils=some (0,[]):=rfl
   unfold AHeap.app
   rw [a1,a2]
  rw [e]
  exact SlOf.app s (.inl ⟨rfl,rfl⟩) hE hC hb w
def goF (p:PProg) (f:PFunc) (i:PIns):Int :=
 if i.a<0∨p.funcs.length≤i.a then 13 else
 match p.funcs[i.a.toNat]? with
 | none=>0
 | some g=>if i.op≠35 then (if g.results.length≠0 then 13 else if (g.slots.take g.params.toNat).any (fun k=>decide (k=2))=true then 10 else listF f.slots i.list (g.slots.take g.params.toNat)) else listF f.slots i.list (g.slots.take g.params.toNat++g.results)
def callsF (p:PProg) (f:PFunc) (i:PIns):Int:=if i.op=36 then listF f.slots i.list f.results else goF p f i
def Hp (p:PProg):Prop:=∀ g,g∈p.funcs→0≤g.params∧g.params≤g.slots.length∧g.slots.length≤32∧g.results.length≤32
set_option maxHeartbeats 4000000 in
theorem calls {h:AHeap} {c:Nat} {p:PProg} {f:PFunc} {i:PIns} (C:CkR h c p f i) (H:Hp p) (hl:i.list.length≤24) {row:List AVal} (R:InsR h i row) :
  CallP AP 82 [.ptr c 0 0,.agg row] h fun r h'=>HFrame h h' [] []∧r=.int .i64 (callsF p f i):=by
 obtain ⟨_,lw,rfl,L⟩:=R
 refine callP (rfl:Tr.get AP 82=some A82) ?_
 generalize hQ:(fun (r:AVal) (h':AHeap)=>_)=Q
 have cl:=SlIn.cellv L
 have f0:=(HFrame.refl (h:=h) (F:=[]) (by simp)).pushTmp (.cells 0 false [.int .i64 i.op,.int .i64 i.a,.int .i64 i.b,.int .i64 i.c,.int .u64 i.imm,lw])
 have C0:=C
 obtain ⟨tv,gv,fv,sv,rv,cv,at_,lv,g,lt,s1,s2,s3,s4,s5,s6,hi,s7⟩:=C
 have l3:=s3.len
 simp -implicitDefEqProofs (disch:=first|exact dz _|fail) only [RGB,↓qJ,qK,qL,qA,qB,qC,qD,qE,↓reduceIte,qG,qH,qI,cl]
 have gB:(h.push (.cells 0 false [.int .i64 i.op,.int .i64 i.a,.int .i64 i.b,.int .i64 i.c,.int .u64 i.imm,lw])).get h.n=_:=AHeap.get_push_same _ _
 have gC:=(f0.get c lt (by simp)).trans g
 have hn0:h.n<(h.push (.cells 0 false [.int .i64 i.op,.int .i64 i.a,.int .i64 i.b,.int .i64 i.c,.int .u64 i.imm,lw])).n:=by simp
 generalize h.push (.cells 0 false [.int .i64 i.op,.int .i64 i.a,.int .i64 i.b,.int .i64 i.c,.int .u64 i.imm,lw])=h1 at *
 have C1:=C0.keep f0
 have n1:=f0.n
 have k1:∀ j,j<h.n→h1.get j=h.get j:=fun j hj=>f0.get j hj (by simp)
 refine cI_bool (fun hb=>?_) (fun hb=>?_)
 ·simp only [decide_eq_true_eq] at hb
  simp -implicitDefEqProofs (disch:=first|exact dz _|fail) only [↓qJ,qK,qL,qA,qB,qC,qD,qE,↓reduceIte,qG,qH,qI,gB,gC]
  refine trCall_of (list C1 (L.keep f0) (s5.keep f0) (by omega)) ?_
  rintro r h2 ⟨f12,rfl⟩
  simp -implicitDefEqProofs (disch:=first|exact dz _|fail) only [↓qJ,qK,qL,qA,qB,qC,qD,qE,↓reduceIte,qG,qH,qI]
  subst hQ
  exact ⟨f0.trans f12,by rw [callsF,if_pos hb]⟩
 ·simp only [decide_eq_false_iff_not] at hb
  have hm:callsF p f i=goF p f i:=if_neg hb
  rw [hm] at hQ
  clear hm
  by_cases hin:0≤i.a∧i.a<p.funcs.length
  ·have d1:decide ((p.funcs.length:Int)≤i.a)=false:=decide_eq_false (by omega)
   have d2:decide (i.a<0)=false:=decide_eq_false (by omega)
   obtain ⟨q,hq⟩:∃ t,p.funcs[i.a.toNat]?=some t:=⟨_,List.getElem?_eq_getElem (by omega)⟩
   obtain ⟨q1,q2,q3,q4⟩:=H q (List.mem_of_getElem? hq)
   obtain ⟨j,g2,off,vs,ro,row,rfl,w2,x3,x4,x5,x6,qs,qr,qc,rfl,ys,yr,yc⟩:=SlR.atv s3 hq
   have x2:=(k1 j x3).trans w2
   have hj:j≠h1.n:=by omega
   have x1:=AM.ix_sl (k:=.i64) (esz:=4) (off:=off) h1 x2 hin.1 hin.2
   have bs:=SlIn.beqv ys
   have br:=SlIn.beqv yr
   have bc:=SlR.beqv yc
   have bf:∀ a b c d e,(AVal.sl a b c d e).beq (AVal.sl a b c d e)=true:=AM.beq_sl
   have bp:∀ a b c,(AVal.ptr a b c).beq (AVal.ptr a b c)=true:=fun a b c=>by simp [AVal.beq]
   have c1:=SlIn.cellv ys
   have c2:=SlIn.cellv yr
   have c3:=SlR.cellv yc
   have ls:=ys.len
   have lr:=yr.len
   have x1p:∀ o,ixV (h1.push o) 4 (.sl j g2 off p.funcs.length 4) (.int .i64 i.a)=some (.ptr j g2 (off+i.a.toNat*4),h1.push o):=fun o=>AM.ix_sl (k:=.i64) (esz:=4) _ ((AHeap.get_push_ne _ _ hj).trans x2) hin.1 hin.2
   simp -implicitDefEqProofs (disch:=first|exact dz _|fail) only [↓qJ,qK,qL,qA,qB,qC,qD,qE,↓reduceIte,qG,qH,qI,gB,gC,l3,d1,d2,x1,x2,x5,c1,c2,c3,bs,br,bc,bf,bp,sameO_some,x1p]
   have fA:=(f0.pushTmp (.cells 0 false [.int .i64 0,.nils,.nils,.nils])).setTmp (i:=h1.n) n1 (.cells 0 false [.int .i64 q.params,qs,qr,qc])
   obtain ⟨pv,sl1,PS⟩:=SlIn.upto (ys.keep fA) q1 (by omega)
   have gA:=AHeap.get_set_same (h1.push (.cells 0 false [.int .i64 0,.nils,.nils,.nils])) h1.n (.cells 0 false [.int .i64 q.params,qs,qr,qc])
   have gBA:((h1.push (.cells 0 false [.int .i64 0,.nils,.nils,.nils])).set h1.n (.cells 0 false [.int .i64 q.params,qs,qr,qc])).get h.n=_:=(AHeap.get_set_ne _ _ (by omega)).trans ((AHeap.get_push_ne _ _ (by omega)).trans gB)
   have nA:((h1.push (.cells 0 false [.int .i64 0,.nils,.nils,.nils])).set h1.n (.cells 0 false [.int .i64 q.params,qs,qr,qc])).n=h1.n+1:=by simp
   generalize ((h1.push (.cells 0 false [.int .i64 0,.nils,.nils,.nils])).set h1.n (.cells 0 false [.int .i64 q.params,qs,qr,qc]))=hA at *
   have lp:=PS.len
   have hgo:goF p f i=if i.op≠35 then (if q.results.length≠0 then 13 else if (q.slots.take q.params.toNat).any (fun k=>decide (k=2))=true then 10 else listF f.slots i.list (q.slots.take q.params.toNat)) else listF f.slots i.list (q.slots.take q.params.toNat++q.results):=by
    rw [goF,if_neg (by omega),hq]
   have lenP:(q.slots.take q.params.toNat).length≤32:=by rw [List.length_take];omega
   generalize q.slots.take q.params.toNat=ps at *
   simp -implicitDefEqProofs (disch:=first|exact dz _|fail) only [↓qJ,qK,qL,qA,qB,qC,qD,qE,↓reduceIte,qG,qH,qI,sl1,gBA]
   refine cI_bool (fun hd=>?_) (fun hd=>?_)
   ·have hop:i.op≠35:=by simpa using hd
    rw [if_pos hop] at hgo
    simp -implicitDefEqProofs (disch:=first|exact dz _|fail) only [↓qJ,qK,qL,qA,qB,qC,qD,qE,↓reduceIte,qG,qH,qI,gA,lr]
    refine cI_bool (fun he=>?_) (fun he=>?_)
    ·have hr0:q.results.length≠0:=by simpa using he
     simp -implicitDefEqProofs (disch:=first|exact dz _|fail) only [↓qJ,qK,qL,qA,qB,qC,qD,qE,↓reduceIte,qG,qH,qI]
     subst hQ
     exact ⟨fA,by rw [hgo,if_pos hr0]⟩
    ·have hr0:¬ q.results.length≠0:=by simp at he;simp [he]
     rw [if_neg hr0] at hgo
     simp -implicitDefEqProofs (disch:=first|exact dz _|fail) only [↓qJ,qK,qL,qA,qB,qC,qD,qE,↓reduceIte,qG,qH,qI,lp]
     refine loopI_of (fun k e h'=>∃ x:Nat,k+x=ps.length∧e.val 0=.ptr c 0 0∧e.val 3=.ptr h.n 0 0∧e.val 6=pv∧e.val 57=pv∧e.val 58=.int .i64 ps.length∧e.val 59=.int .i64 x∧h'=hA∧ps.any (fun k=>decide (k=2))=(ps.drop x).any (fun k=>decide (k=2))) ps.length ?_ ?_
     ·refine ⟨0,by omega,?_,?_,?_,?_,?_,?_,rfl,by simp⟩<;>simp -implicitDefEqProofs (disch:=first|exact dz _|fail) only [↓qJ,qK,qL,qA,qB,qC,qD,qE,↓reduceIte,qG,qH,qI]<;>rfl
     ·rintro k e h' ⟨x,hk,e0,e3,e6,e57,e58,e59,hh,ha⟩
      subst hh
      simp -implicitDefEqProofs (disch:=first|exact dz _|fail) only [↓qJ,qK,qL,qA,qB,qC,qD,qE,↓reduceIte,qG,qH,qI,e57,e58,e59]
      refine cI_bool (fun hx=>?_) (fun hx=>?_)
      ·simp only [decide_eq_true_eq] at hx
       obtain ⟨a,hax⟩:∃ a,ps[x]?=some a:=⟨_,List.getElem?_eq_getElem (by omega)⟩
       obtain ⟨j2,g3,off2,vs2,ro2,y1,y2,y3,y5⟩:=(PS.rd hax).ix1 (enc:=fun n=>.int .i64 n) hax .i64
       have hw1:IntKind.i64.wrap ((x:Int)+1)=((x+1:Nat):Int):=(wrap64 (by omega) (by omega)).trans (by omega)
       rw [any_drop hax] at ha
       simp -implicitDefEqProofs (disch:=first|exact dz _|fail) only [↓qJ,qK,qL,qA,qB,qC,qD,qE,↓reduceIte,qG,qH,qI,e0,e3,e6,e57,e58,e59,y1,y2,y5]
       refine cI_bool (fun hy=>?_) (fun hy=>?_)
       ·simp -implicitDefEqProofs (disch:=first|exact dz _|fail) only [↓qJ,qK,qL,qA,qB,qC,qD,qE,↓reduceIte,qG,qH,qI]
        rw [hy,Bool.true_or] at ha
        subst hQ
        exact ⟨fA,by rw [hgo,if_pos ha]⟩
       ·rw [hy,Bool.false_or] at ha
        simp -implicitDefEqProofs (disch:=first|exact dz _|fail) only [↓qJ,qK,qL,qA,qB,qC,qD,qE,↓reduceIte,qG,qH,qI,e0,e3,e6,e57,e58,e59,hw1]
        exact ⟨ps.length-(x+1),by omega,x+1,by omega,rfl,ha⟩
      ·simp only [decide_eq_false_iff_not] at hx
       rw [List.drop_of_length_le (by omega),List.any_nil] at ha
       rw [if_neg (by simp [ha])] at hgo
       simp -implicitDefEqProofs (disch:=first|exact dz _|fail) only [↓qJ,qK,qL,qA,qB,qC,qD,qE,↓reduceIte,qG,qH,qI,e0,e3,e6,gBA]
       refine callI_of (list (C0.keep fA) (L.keep fA) PS (by omega)) ?_
       rintro r h3 ⟨f23,rfl⟩
       simp -implicitDefEqProofs (disch:=first|exact dz _|fail) only [↓qJ,qK,qL,qA,qB,qC,qD,qE,↓reduceIte,qG,qH,qI]
       subst hQ
       exact ⟨fA.trans f23,by rw [hgo]⟩
   ·have hop:¬ i.op≠35:=by simpa using hd
    rw [if_neg hop] at hgo
    simp -implicitDefEqProofs (disch:=first|exact dz _|fail) only [↓qJ,qK,qL,qA,qB,qC,qD,qE,↓reduceIte,qG,qH,qI,gA]
    refine trOp_of (SlOf.appIn (SlOf.nil (enc:=encK)) PS (fun _=>rfl) (fun _=>rfl) (by simp only [List.length_nil];omega) fun v1 h3 F3 s3' f3=>?_)
    have gA3:=(f3.get h1.n (by omega) (by simp)).trans gA
    have hA3:h1.n<h3.n:=by have:=f3.n;omega
    have fA3:=fA.trans f3
    simp -implicitDefEqProofs (disch:=first|exact dz _|fail) only [↓qJ,qK,qL,qA,qB,qC,qD,qE,↓reduceIte,qG,qH,qI,gA3]
    refine trOp_of (SlOf.appIn s3' (yr.keep fA3) (fun _=>rfl) (fun _=>rfl) (by simp only [List.length_append,List.length_nil];omega) fun v2 h4 F4 s4' f4=>?_)
    have f34:=f3.trans f4
    have gB4:=(f34.get h.n (by omega) (by simp)).trans gBA
    have hn4:h.n<h4.n:=by have:=f34.n;omega
    have fA4:=HFrame.non (fA.trans f34)
    simp -implicitDefEqProofs (disch:=first|exact dz _|fail) only [↓qJ,qK,qL,qA,qB,qC,qD,qE,↓reduceIte,qG,qH,qI,gA,gA3,br,gB4]
    refine callI_of (list (C0.keep fA4) (L.keep fA4) (.inl s4'.rd) (by omega)) ?_
    rintro r h5 ⟨f45,rfl⟩
    simp -implicitDefEqProofs (disch:=first|exact dz _|fail) only [↓qJ,qK,qL,qA,qB,qC,qD,qE,↓reduceIte,qG,qH,qI]
    subst hQ
    exact ⟨fA4.trans f45,by rw [hgo]⟩
  ·have hg:goF p f i=13:=if_pos (by omega)
   rcases Int.lt_or_le i.a 0 with hlt | hle
   ·have d2:decide (i.a<0)=true:=decide_eq_true (by omega)
    simp -implicitDefEqProofs (disch:=first|exact dz _|fail) only [↓qJ,qK,qL,qA,qB,qC,qD,qE,↓reduceIte,qG,qH,qI,gB,gC,l3,d2]
    subst hQ
    exact ⟨f0,by rw [hg]⟩
   ·have d1:decide ((p.funcs.length:Int)≤i.a)=true:=decide_eq_true (by omega)
    have d2:decide (i.a<0)=false:=decide_eq_false (by omega)
    simp -implicitDefEqProofs (disch:=first|exact dz _|fail) only [↓qJ,qK,qL,qA,qB,qC,qD,qE,↓reduceIte,qG,qH,qI,gB,gC,l3,d1,d2]
    subst hQ
    exact ⟨f0,by rw [hg]⟩
end Go.Proofs.Ytnbnpjhlflcjeaa.Id.V
namespace Go.Proofs.Ytnbnpjhlflcjeaa.Id.V
open Go Go.AM Go.Proofs.Ytnbnpjhlflcjeaa.AmGF
open Nat renaming reduceAdd → qA,reduceLeDiff → qB,reduceEqDiff → qC,reduceLT → qE
open Int renaming reduceToNat → qD,reduceEq → qG,reduceLT → qH,reduceLE → qI
def chanF (sl:List Int) (n:Int):Int×Int :=
 match slotK sl n with
 | none=>(0,11)
 | some k=>if k<64 then (0,10) else (k-64,0)
def oneC (sl:List Int) (d c v:Int):Int:=if d≠0∧d≠1 then 8 else if (chanF sl c).2≠0 then (chanF sl c).2 else areF sl [(v,(chanF sl c).1)]
def threes (sl:List Int):List Int→Int
 | d::c::v::r=>if oneC sl d c v≠0 then oneC sl d c v else threes sl r
 | _=>0
def chooseF (sl:List Int) (i:PIns):Int:=if i.b<0∨1<i.b∨i.list.length%3≠0 then 16 else if threes sl i.list≠0 then threes sl i.list else areF sl [(i.a,0)]
def sendF (sl:List Int) (i:PIns) (ch v:Int):Int:=if (chanF sl ch).2≠0 then (chanF sl ch).2 else if i.op=43 then areF sl [(v,(chanF sl ch).1),(i.c,0)] else areF sl [(v,(chanF sl ch).1)]
def channelsF (sl:List Int) (i:PIns):Int :=
 if orB i.op [41,44]=true then (if 16<i.imm then 16 else (chanF sl i.a).2) else if i.op=43 then sendF sl i i.b i.a else if i.op=45 then chooseF sl i else sendF sl i i.a i.b
theorem kind_top {nt:Nat} {k:Int} (h:kindF nt k=true):k<128:=by
 unfold kindF kind1 at h
 simp only [Bool.or_eq_true,Bool.and_eq_true,decide_eq_true_eq] at h
 omega
theorem channel {h:AHeap} {c:Nat} {p:PProg} {f:PFunc} {i:PIns} (C:CkR h c p f i) (H:Hs p f.slots) (n:Int) :
  CallP AP 101 [.ptr c 0 0,.int .i64 n] h fun r h'=>h'=h∧r=.tup [.int .i64 (chanF f.slots n).1,.int .i64 (chanF f.slots n).2]:=by
 refine callP (rfl:Tr.get AP 101=some A101) ?_
 generalize hQ:(fun (r:AVal) (h':AHeap)=>_)=Q
 simp -implicitDefEqProofs (disch:=first|exact dz _|fail) only [↓qJ,qK,qL,qA,qB,qC,qD,qE,↓reduceIte,qG,qH,qI]
 refine callI_of (slot C n) ?_
 rintro r h2 ⟨rfl,rfl⟩
 simp -implicitDefEqProofs (disch:=first|exact dz _|fail) only [↓qJ,qK,qL,qA,qB,qC,qD,qE,↓reduceIte,qG,qH,qI]
 cases hk:slotK f.slots n with
 | none =>
  simp -implicitDefEqProofs (disch:=first|exact dz _|fail) only [↓qJ,qK,qL,qA,qB,qC,qD,qE,↓reduceIte,qG,qH,qI,Option.isSome_none]
  subst hQ
  exact ⟨rfl,by rw [chanF,hk]⟩
 | some k =>
  simp -implicitDefEqProofs (disch:=first|exact dz _|fail) only [↓qJ,qK,qL,qA,qB,qC,qD,qE,↓reduceIte,qG,qH,qI,Option.isSome_some,Option.getD_some]
  refine cI_bool (fun hd=>?_) (fun hd=>?_)
  ·simp only [decide_eq_true_eq] at hd
   simp -implicitDefEqProofs (disch:=first|exact dz _|fail) only [↓qJ,qK,qL,qA,qB,qC,qD,qE,↓reduceIte,qG,qH,qI]
   subst hQ
   exact ⟨rfl,by rw [chanF,hk];simp only;rw [if_pos hd]⟩
  ·simp only [decide_eq_false_iff_not] at hd
   have:=kind_top ((H.at hk).resolve_left (by omega))
   have hw:IntKind.i64.wrap (k-64)=k-64:=wrap64 (by omega) (by omega)
   simp -implicitDefEqProofs (disch:=first|exact dz _|fail) only [↓qJ,qK,qL,qA,qB,qC,qD,qE,↓reduceIte,qG,qH,qI,hw]
   subst hQ
   exact ⟨rfl,by rw [chanF,hk];simp only;rw [if_neg hd]⟩
set_option maxHeartbeats 4000000 in
theorem choose {h:AHeap} {c:Nat} {p:PProg} {f:PFunc} {i:PIns} (C:CkR h c p f i) (H:Hs p f.slots) (hl:i.list.length≤24) {row:List AVal} (R:InsR h i row) :
  CallP AP 102 [.ptr c 0 0,.agg row] h fun r h'=>HFrame h h' [] []∧r=.int .i64 (chooseF f.slots i):=by
 obtain ⟨_,lw,rfl,L⟩:=R
 refine callP (rfl:Tr.get AP 102=some A102) ?_
 generalize hQ:(fun (r:AVal) (h':AHeap)=>_)=Q
 have cl:=SlIn.cellv L
 have ll:=L.len
 have f0:=(HFrame.refl (h:=h) (F:=[]) (by simp)).pushTmp (.cells 0 false [.int .i64 i.op,.int .i64 i.a,.int .i64 i.b,.int .i64 i.c,.int .u64 i.imm,lw])
 simp -implicitDefEqProofs (disch:=first|exact dz _|fail) only [RGB,↓qJ,qK,qL,qA,qB,qC,qD,qE,↓reduceIte,qG,qH,qI,cl]
 have gB:(h.push (.cells 0 false [.int .i64 i.op,.int .i64 i.a,.int .i64 i.b,.int .i64 i.c,.int .u64 i.imm,lw])).get h.n=_:=AHeap.get_push_same _ _
 have hn0:h.n<(h.push (.cells 0 false [.int .i64 i.op,.int .i64 i.a,.int .i64 i.b,.int .i64 i.c,.int .u64 i.imm,lw])).n:=by simp
 generalize h.push (.cells 0 false [.int .i64 i.op,.int .i64 i.a,.int .i64 i.b,.int .i64 i.c,.int .u64 i.imm,lw])=h1 at *
 have C1:=C.keep f0
 have htm:(((i.list.length:Int).tmod 3=0))↔i.list.length%3=0:=by
  rw [Int.tmod_eq_emod_of_nonneg (by omega)];omega
 simp -implicitDefEqProofs (disch:=first|exact dz _|fail) only [RGB,↓qJ,qK,qL,qA,qB,qC,qD,qE,↓reduceIte,qG,qH,qI,gB,ll]
 refine cI_bool (fun hb=>?_) (fun hb=>?_)
 ·simp -implicitDefEqProofs (disch:=first|exact dz _|fail) only [↓qJ,qK,qL,qA,qB,qC,qD,qE,↓reduceIte,qG,qH,qI]
  simp only [Bool.or_eq_true,decide_eq_true_eq,Bool.not_eq_true',decide_eq_false_iff_not,htm] at hb
  subst hQ
  exact ⟨f0,by rw [chooseF,if_pos (by omega)]⟩
 ·simp only [Bool.or_eq_false_iff,decide_eq_false_iff_not,Bool.not_eq_false',decide_eq_true_eq,htm] at hb
  simp -implicitDefEqProofs (disch:=first|exact dz _|fail) only [↓qJ,qK,qL,qA,qB,qC,qD,qE,↓reduceIte,qG,qH,qI]
  have hch:chooseF f.slots i=if threes f.slots i.list≠0 then threes f.slots i.list else areF f.slots [(i.a,0)]:=by rw [chooseF,if_neg (by omega)]
  refine loopI_of (fun k e h'=>∃ x:Nat,k+x=i.list.length∧3*x≤i.list.length∧e.val 0=.ptr c 0 0∧e.val 3=.ptr h.n 0 0∧e.val 5=.int .i64 (3*x:Nat)∧HFrame h1 h' [] []∧threes f.slots i.list=threes f.slots (i.list.drop (3*x))) i.list.length ?_ ?_
  ·refine ⟨0,by omega,by omega,?_,?_,?_,HFrame.refl (by simp),by simp⟩<;>simp -implicitDefEqProofs (disch:=first|exact dz _|fail) only [↓qJ,qK,qL,qA,qB,qC,qD,qE,↓reduceIte,qG,qH,qI]<;>rfl
  ·rintro k e h' ⟨x,hk,hx,e0,e3,e5,fr,ht⟩
   have gB':=(fr.get h.n hn0 (by simp)).trans gB
   have hn':h.n<h'.n:=by have:=fr.n;omega
   have C':=C1.keep fr
   have L':=(L.keep f0).keep fr
   simp -implicitDefEqProofs (disch:=first|exact dz _|fail) only [↓qJ,qK,qL,qA,qB,qC,qD,qE,↓reduceIte,qG,qH,qI,e0,e3,e5,gB',ll]
   refine cI_bool (fun hc=>?_) (fun hc=>?_)
   ·simp only [decide_eq_true_eq] at hc
    obtain ⟨a,ha⟩:∃ a,i.list[3*x]?=some a:=⟨_,List.getElem?_eq_getElem (by omega)⟩
    obtain ⟨b,hb2⟩:∃ a,i.list[3*x+1]?=some a:=⟨_,List.getElem?_eq_getElem (by omega)⟩
    obtain ⟨d,hd⟩:∃ a,i.list[3*x+2]?=some a:=⟨_,List.getElem?_eq_getElem (by omega)⟩
    obtain ⟨j,g,off,vs,ro,x1,x2,x3,x5⟩:=(L'.rd ha).ix1 (enc:=fun n=>.int .i64 n) ha .i64
    obtain ⟨j2,g2,off2,vs2,ro2,y1,y2,y3,y5⟩:=(L'.rd hb2).ix1 (enc:=fun n=>.int .i64 n) hb2 .i64
    obtain ⟨j3,g3,off3,vs3,ro3,z1,z2,z3,z5⟩:=(L'.rd hd).ix1 (enc:=fun n=>.int .i64 n) hd .i64
    have hdr:i.list.drop (3*x)=a::b::d::i.list.drop (3*(x+1)):=by
     obtain ⟨q1,rfl⟩:=List.getElem?_eq_some_iff.1 ha
     obtain ⟨q2,rfl⟩:=List.getElem?_eq_some_iff.1 hb2
     obtain ⟨q3,rfl⟩:=List.getElem?_eq_some_iff.1 hd
     rw [List.drop_eq_getElem_cons q1,List.drop_eq_getElem_cons q2,List.drop_eq_getElem_cons q3]
     rfl
    rw [hdr] at ht
    have hw1:IntKind.i64.wrap (((3*x:Nat):Int)+1)=((3*x+1:Nat):Int):=(wrap64 (by omega) (by omega)).trans (by omega)
    have hw2:IntKind.i64.wrap (((3*x:Nat):Int)+2)=((3*x+2:Nat):Int):=(wrap64 (by omega) (by omega)).trans (by omega)
    have hw3:IntKind.i64.wrap (((3*x:Nat):Int)+3)=((3*(x+1):Nat):Int):=(wrap64 (by omega) (by omega)).trans (by omega)
    simp -implicitDefEqProofs (disch:=first|exact dz _|fail) only [RGB,↓qJ,qK,qL,qA,qB,qC,qD,qE,↓reduceIte,qG,qH,qI,e0,e3,e5,gB',x1,x2,x5]
    refine cI_bool (fun hd=>?_) (fun hd=>?_)
    ·simp -implicitDefEqProofs (disch:=first|exact dz _|fail) only [↓qJ,qK,qL,qA,qB,qC,qD,qE,↓reduceIte,qG,qH,qI]
     have h8:oneC f.slots a b d=8:=by rw [oneC,if_pos (by simpa using hd)]
     have h9:threes f.slots i.list=8:=by rw [ht,threes,h8];rfl
     subst hQ
     exact ⟨f0.trans fr,by rw [hch,h9];rfl⟩
    ·have hone:oneC f.slots a b d=if (chanF f.slots b).2≠0 then (chanF f.slots b).2 else areF f.slots [(d,(chanF f.slots b).1)]:=by
      rw [oneC,if_neg]
      intro hq
      rw [decide_eq_false hq.1,decide_eq_false hq.2] at hd
      cases hd
     simp -implicitDefEqProofs (disch:=first|exact dz _|fail) only [↓qJ,qK,qL,qA,qB,qC,qD,qE,↓reduceIte,qG,qH,qI,e0,e3,e5,gB',hw1,y1,y2,y5]
     refine callI_of (channel C' H b) ?_
     rintro r h2 ⟨rfl,rfl⟩
     simp -implicitDefEqProofs (disch:=first|exact dz _|fail) only [↓qJ,qK,qL,qA,qB,qC,qD,qE,↓reduceIte,qG,qH,qI]
     refine cI_bool (fun he=>?_) (fun he=>?_)
     ·simp -implicitDefEqProofs (disch:=first|exact dz _|fail) only [↓qJ,qK,qL,qA,qB,qC,qD,qE,↓reduceIte,qG,qH,qI]
      have he':(chanF f.slots b).2≠0:=by simpa using he
      rw [if_pos he'] at hone
      have h9:threes f.slots i.list=(chanF f.slots b).2:=by rw [ht,threes,hone,if_pos he']
      subst hQ
      exact ⟨f0.trans fr,by rw [hch,h9,if_pos he']⟩
     ·have he':¬ (chanF f.slots b).2≠0:=by simpa using he
      rw [if_neg he'] at hone
      simp -implicitDefEqProofs (disch:=first|exact dz _|fail) only [↓qJ,qK,qL,qA,qB,qC,qD,qE,↓reduceIte,qG,qH,qI,e0,e3,e5,gB',hw2,z1,z2,z5,a_buildSlice,List.range,List.range.loop,List.getD_cons_zero,Nat.mod_one]
      refine callI_of (are1 C' d (chanF f.slots b).1) ?_
      rintro r h3 ⟨f3,rfl⟩
      simp -implicitDefEqProofs (disch:=first|exact dz _|fail) only [↓qJ,qK,qL,qA,qB,qC,qD,qE,↓reduceIte,qG,qH,qI]
      refine cI_bool (fun hf=>?_) (fun hf=>?_)
      ·have hf':areF f.slots [(d,(chanF f.slots b).1)]≠0:=by simpa using hf
       simp -implicitDefEqProofs (disch:=first|exact dz _|fail) only [↓qJ,qK,qL,qA,qB,qC,qD,qE,↓reduceIte,qG,qH,qI]
       have h9:threes f.slots i.list=areF f.slots [(d,(chanF f.slots b).1)]:=by rw [ht,threes,hone,if_pos hf']
       subst hQ
       exact ⟨(f0.trans fr).trans f3,by rw [hch,h9,if_pos hf']⟩
      ·have hf':¬ areF f.slots [(d,(chanF f.slots b).1)]≠0:=by simpa using hf
       simp -implicitDefEqProofs (disch:=first|exact dz _|fail) only [↓qJ,qK,qL,qA,qB,qC,qD,qE,↓reduceIte,qG,qH,qI,e0,e3,e5,hw3]
       rw [threes,hone,if_neg hf'] at ht
       exact ⟨i.list.length-(x+1),by omega,x+1,by omega,by omega,rfl,fr.trans f3,ht⟩
   ·simp only [decide_eq_false_iff_not] at hc
    have h9:threes f.slots i.list=0:=by rw [ht,List.drop_of_length_le (by omega)];rfl
    simp -implicitDefEqProofs (disch:=first|exact dz _|fail) only [↓qJ,qK,qL,qA,qB,qC,qD,qE,↓reduceIte,qG,qH,qI,e0,e3,gB',a_buildSlice,List.range,List.range.loop,List.getD_cons_zero,Nat.mod_one]
    refine callI_of (are1 C' i.a 0) ?_
    rintro r h3 ⟨f3,rfl⟩
    simp -implicitDefEqProofs (disch:=first|exact dz _|fail) only [↓qJ,qK,qL,qA,qB,qC,qD,qE,↓reduceIte,qG,qH,qI]
    subst hQ
    exact ⟨(f0.trans fr).trans f3,by rw [hch,h9,if_neg (by simp)]⟩
set_option maxHeartbeats 4000000 in
theorem channels {h:AHeap} {c:Nat} {p:PProg} {f:PFunc} {i:PIns} (C:CkR h c p f i) (H:Hs p f.slots) (hl:i.list.length≤24) {row:List AVal} (R:InsR h i row) :
  CallP AP 83 [.ptr c 0 0,.agg row] h fun r h'=>HFrame h h' [] []∧r=.int .i64 (channelsF f.slots i):=by
 have R0:=R
 obtain ⟨_,lw,rfl,L⟩:=R
 refine callP (rfl:Tr.get AP 83=some A83) ?_
 generalize hQ:(fun (r:AVal) (h':AHeap)=>_)=Q
 have cl:=SlIn.cellv L
 have f0:=(HFrame.refl (h:=h) (F:=[]) (by simp)).pushTmp (.cells 0 false [.int .i64 i.op,.int .i64 i.a,.int .i64 i.b,.int .i64 i.c,.int .u64 i.imm,lw])
 simp -implicitDefEqProofs (disch:=first|exact dz _|fail) only [RGB,↓qJ,qK,qL,qA,qB,qC,qD,qE,↓reduceIte,qG,qH,qI,cl]
 have gB:(h.push (.cells 0 false [.int .i64 i.op,.int .i64 i.a,.int .i64 i.b,.int .i64 i.c,.int .u64 i.imm,lw])).get h.n=_:=AHeap.get_push_same _ _
 have hn0:h.n<(h.push (.cells 0 false [.int .i64 i.op,.int .i64 i.a,.int .i64 i.b,.int .i64 i.c,.int .u64 i.imm,lw])).n:=by simp
 generalize h.push (.cells 0 false [.int .i64 i.op,.int .i64 i.a,.int .i64 i.b,.int .i64 i.c,.int .u64 i.imm,lw])=h1 at *
 have C1:=C.keep f0
 refine cI_or (t:=17) (s:=16) (x:=i.op) (by decide) [(19,44)] (by simp -implicitDefEqProofs (disch:=first|exact dz _|fail) only [↓qJ,qK,qL,qA,qB,qC,qD,qE,↓reduceIte,qG,qH,qI]) (by simp -implicitDefEqProofs (disch:=first|exact dz _|fail) only [↓qJ,qK,qL,qA,qB,qC,qD,qE,↓reduceIte,qG,qH,qI]) (by decide) ?_
 intro e' ht hk
 have e0':Env.val e' 0=.ptr c 0 0:=(hk 0 (by decide) (by decide)).trans (by simp -implicitDefEqProofs (disch:=first|exact dz _|fail) only [↓qJ,qK,qL,qA,qB,qC,qD,qE,↓reduceIte,qG,qH,qI])
 have e3':Env.val e' 3=.ptr h.n 0 0:=(hk 3 (by decide) (by decide)).trans (by simp -implicitDefEqProofs (disch:=first|exact dz _|fail) only [↓qJ,qK,qL,qA,qB,qC,qD,qE,↓reduceIte,qG,qH,qI])
 have e5':Env.val e' 5=.int .i64 i.a:=(hk 5 (by decide) (by decide)).trans (by simp -implicitDefEqProofs (disch:=first|exact dz _|fail) only [↓qJ,qK,qL,qA,qB,qC,qD,qE,↓reduceIte,qG,qH,qI])
 have e6':Env.val e' 6=.int .i64 i.b:=(hk 6 (by decide) (by decide)).trans (by simp -implicitDefEqProofs (disch:=first|exact dz _|fail) only [↓qJ,qK,qL,qA,qB,qC,qD,qE,↓reduceIte,qG,qH,qI])
 have e16':Env.val e' 16=.int .i64 i.op:=(hk 16 (by decide) (by decide)).trans (by simp -implicitDefEqProofs (disch:=first|exact dz _|fail) only [↓qJ,qK,qL,qA,qB,qC,qD,qE,↓reduceIte,qG,qH,qI])
 clear hk
 try clear e0
 have e0:=e0'
 clear e0'
 try clear e3
 have e3:=e3'
 clear e3'
 try clear e5
 have e5:=e5'
 clear e5'
 try clear e6
 have e6:=e6'
 clear e6'
 try clear e16
 have e16:=e16'
 clear e16'
 simp -implicitDefEqProofs (disch:=first|exact dz _|fail) only [↓qJ,qK,qL,qA,qB,qC,qD,qE,↓reduceIte,qG,qH,qI,ht]
 refine cI_bool (fun hb=>?_) (fun hb=>?_)
 ·have m1:orB i.op [41,44]=true:=hb
  clear hb ht
  simp -implicitDefEqProofs (disch:=first|exact dz _|fail) only [↓qJ,qK,qL,qA,qB,qC,qD,qE,↓reduceIte,qG,qH,qI,e0,e3,gB]
  refine cI_bool (fun hc=>?_) (fun hc=>?_)
  ·simp -implicitDefEqProofs (disch:=first|exact dz _|fail) only [↓qJ,qK,qL,qA,qB,qC,qD,qE,↓reduceIte,qG,qH,qI]
   simp only [decide_eq_true_eq] at hc
   subst hQ
   exact ⟨f0,by rw [channelsF,if_pos m1,if_pos (by omega)]⟩
  ·simp only [decide_eq_false_iff_not] at hc
   simp -implicitDefEqProofs (disch:=first|exact dz _|fail) only [↓qJ,qK,qL,qA,qB,qC,qD,qE,↓reduceIte,qG,qH,qI,e0,e3,gB]
   refine callI_of (channel C1 H i.a) ?_
   rintro r h2 ⟨rfl,rfl⟩
   simp -implicitDefEqProofs (disch:=first|exact dz _|fail) only [↓qJ,qK,qL,qA,qB,qC,qD,qE,↓reduceIte,qG,qH,qI]
   subst hQ
   exact ⟨f0,by rw [channelsF,if_pos m1,if_neg (by omega)]⟩
 have m1:orB i.op [41,44]=false:=hb
 clear hb ht
 simp -implicitDefEqProofs (disch:=first|exact dz _|fail) only [↓qJ,qK,qL,qA,qB,qC,qD,qE,↓reduceIte,qG,qH,qI,e16]
 refine cI_bool (fun hop=>?_) (fun hop=>?_)
 ·have hop:i.op=43:=by simpa using hop
  have dop:decide (i.op=43)=true:=decide_eq_true hop
  have hm:channelsF f.slots i=sendF f.slots i i.b i.a:=by rw [channelsF,if_neg (by simp [m1]),if_pos hop]
  simp -implicitDefEqProofs (disch:=first|exact dz _|fail) only [↓qJ,qK,qL,qA,qB,qC,qD,qE,↓reduceIte,qG,qH,qI,e0,e3,e5,e6,gB]
  refine callI_of (channel C1 H i.b) ?_
  rintro r h2 ⟨rfl,rfl⟩
  simp -implicitDefEqProofs (disch:=first|exact dz _|fail) only [↓qJ,qK,qL,qA,qB,qC,qD,qE,↓reduceIte,qG,qH,qI]
  refine cI_bool (fun he=>?_) (fun he=>?_)
  ·simp -implicitDefEqProofs (disch:=first|exact dz _|fail) only [↓qJ,qK,qL,qA,qB,qC,qD,qE,↓reduceIte,qG,qH,qI]
   have he':(chanF f.slots i.b).2≠0:=by simpa using he
   subst hQ
   exact ⟨f0,by rw [hm,sendF,if_pos he']⟩
  ·have he':¬ (chanF f.slots i.b).2≠0:=by simpa using he
   simp -implicitDefEqProofs (disch:=first|exact dz _|fail) only [↓qJ,qK,qL,qA,qB,qC,qD,qE,↓reduceIte,qG,qH,qI,e0,e3,e6,gB,dop,a_buildSlice,List.range,List.range.loop,List.getD_cons_zero,Nat.mod_one]
   refine callI_of (are2 C1 i.a (chanF f.slots i.b).1 i.c 0) ?_
   rintro r h3 ⟨f3,rfl⟩
   simp -implicitDefEqProofs (disch:=first|exact dz _|fail) only [↓qJ,qK,qL,qA,qB,qC,qD,qE,↓reduceIte,qG,qH,qI]
   subst hQ
   exact ⟨f0.trans f3,by rw [hm,sendF,if_neg he',if_pos hop]⟩
 ·have hop:¬ i.op=43:=by simpa using hop
  have dop:decide (i.op=43)=false:=decide_eq_false hop
  simp -implicitDefEqProofs (disch:=first|exact dz _|fail) only [↓qJ,qK,qL,qA,qB,qC,qD,qE,↓reduceIte,qG,qH,qI,e16]
  refine cI_bool (fun hop2=>?_) (fun hop2=>?_)
  ·have hop2:i.op=45:=by simpa using hop2
   have hm:channelsF f.slots i=chooseF f.slots i:=by rw [channelsF,if_neg (by simp [m1]),if_neg hop,if_pos hop2]
   simp -implicitDefEqProofs (disch:=first|exact dz _|fail) only [↓qJ,qK,qL,qA,qB,qC,qD,qE,↓reduceIte,qG,qH,qI,e0,e3,gB]
   refine callI_of (choose C1 H hl (R0.keep f0)) ?_
   rintro r h2 ⟨f2,rfl⟩
   simp -implicitDefEqProofs (disch:=first|exact dz _|fail) only [↓qJ,qK,qL,qA,qB,qC,qD,qE,↓reduceIte,qG,qH,qI]
   subst hQ
   exact ⟨f0.trans f2,by rw [hm]⟩
  ·have hop2:¬ i.op=45:=by simpa using hop2
   have hm:channelsF f.slots i=sendF f.slots i i.a i.b:=by rw [channelsF,if_neg (by simp [m1]),if_neg hop,if_neg hop2]
   simp -implicitDefEqProofs (disch:=first|exact dz _|fail) only [↓qJ,qK,qL,qA,qB,qC,qD,qE,↓reduceIte,qG,qH,qI,e0,e3,e5,e6,gB]
   refine callI_of (channel C1 H i.a) ?_
   rintro r h2 ⟨rfl,rfl⟩
   simp -implicitDefEqProofs (disch:=first|exact dz _|fail) only [↓qJ,qK,qL,qA,qB,qC,qD,qE,↓reduceIte,qG,qH,qI]
   refine cI_bool (fun he=>?_) (fun he=>?_)
   ·simp -implicitDefEqProofs (disch:=first|exact dz _|fail) only [↓qJ,qK,qL,qA,qB,qC,qD,qE,↓reduceIte,qG,qH,qI]
    have he':(chanF f.slots i.a).2≠0:=by simpa using he
    subst hQ
    exact ⟨f0,by rw [hm,sendF,if_pos he']⟩
   ·have he':¬ (chanF f.slots i.a).2≠0:=by simpa using he
    simp -implicitDefEqProofs (disch:=first|exact dz _|fail) only [↓qJ,qK,qL,qA,qB,qC,qD,qE,↓reduceIte,qG,qH,qI,e0,e3,e6,gB,dop,a_buildSlice,List.range,List.range.loop,List.getD_cons_zero,Nat.mod_one]
    refine callI_of (are1 C1 i.b (chanF f.slots i.a).1) ?_
    rintro r h3 ⟨f3,rfl⟩
    simp -implicitDefEqProofs (disch:=first|exact dz _|fail) only [↓qJ,qK,qL,qA,qB,qC,qD,qE,↓reduceIte,qG,qH,qI]
    subst hQ
    exact ⟨f0.trans f3,by rw [hm,sendF,if_neg he',if_neg hop]⟩
end Go.Proofs.Ytnbnpjhlflcjeaa.Id.V
namespace Go.Proofs.Ytnbnpjhlflcjeaa.Id.V
open Go Go.AM Go.Proofs.Ytnbnpjhlflcjeaa.AmGF
open Nat renaming reduceAdd → qA,reduceLeDiff → qB,reduceEqDiff → qC,reduceLT → qE
open Int renaming reduceToNat → qD,reduceEq → qG,reduceLT → qH,reduceLE → qI
def bodyF (p:PProg) (f:PFunc) (i:PIns):Int :=
 if orB i.op [1,48]=true then alikeF f.slots (fun k=>decide (k=0)||decide (k=1)) [i.a] else
 if orB i.op [2]=true then alikeF f.slots (fun _=>true) [i.a,i.b] else
 if orB i.op [3,4,5,6,7,8,9,10,11,12,13,14]=true then areF f.slots [(i.a,0),(i.b,0),(i.c,0)] else
 if orB i.op [15,16,17,18]=true then areF f.slots [(i.a,1),(i.b,1),(i.c,1)] else
 if orB i.op [19,20]=true then areF f.slots [(i.a,0),(i.b,1),(i.c,1)] else
 if orB i.op [21]=true then areF f.slots [(i.a,1),(i.b,0)] else
 if orB i.op [22,40]=true then (if i.op=40 then areF f.slots [(i.a,0),(i.b,0)] else areF f.slots [(i.a,0),(i.b,1)]) else
 if orB i.op [23]=true then (if areF f.slots [(i.a,0)]≠0 then areF f.slots [(i.a,0)] else alikeF f.slots (fun k=>decide (16≤k)) [i.b,i.c]) else
 if orB i.op [24,25]=true then jumpF f i else
 if orB i.op [39,46,52]=true then areF f.slots [(i.a,0)] else
 if orB i.op [47]=true then 0 else
 if orB i.op [49,51]=true then areF f.slots [(i.a,2),(i.b,0)] else
 if orB i.op [50]=true then areF f.slots [(i.a,0),(i.b,2)] else
 if orB i.op [26,27,28,29,30,31,32,33,34]=true then memF p f.slots i else
 if orB i.op [35,36,37,38]=true then callsF p f i else
 channelsF f.slots i
def insF (p:PProg) (f:PFunc) (i:PIns):Int:=if i.op<1∨52<i.op then 9 else if formF i≠0 then formF i else bodyF p f i
theorem formF_len {i:PIns} (h:¬ formF i≠0):i.list.length≤24:=by
 rcases Nat.lt_or_ge 24 i.list.length with hl | hl
 ·exact absurd (by unfold formF;split<;>simp [hl]) h
 ·exact hl
set_option maxHeartbeats 8000000 in
theorem one {h:AHeap} {c:Nat} {p:PProg} {f:PFunc} {i:PIns} (C:CkR h c p f i) (H:Hs p f.slots) (T:Ht p) (hT:p.types.length≤32) (HP:Hp p) :
  CallP AP 56 [.ptr c 0 0] h fun r h'=>HFrame h h' [] []∧r=.int .i64 (insF p f i):=by
 refine callP (rfl:Tr.get AP 56=some A56) ?_
 generalize hQ:(fun (r:AVal) (h':AHeap)=>_)=Q
 have C0:=C
 obtain ⟨tv,gv,fv,sv,rv,cv,at_,lv,g,lt,s1,s2,s3,s4,s5,s6,hi,s7⟩:=C
 have cl:=SlIn.cellv s7
 simp -implicitDefEqProofs (disch:=first|exact dz _|fail) only [RGB,↓qJ,qK,qL,qA,qB,qC,qD,qE,↓reduceIte,qG,qH,qI,g]
 refine cI_bool (fun hb=>?_) (fun hb=>?_)
 ·simp -implicitDefEqProofs (disch:=first|exact dz _|fail) only [↓qJ,qK,qL,qA,qB,qC,qD,qE,↓reduceIte,qG,qH,qI]
  simp only [Bool.or_eq_true,decide_eq_true_eq] at hb
  subst hQ
  exact ⟨HFrame.refl (by simp),by rw [insF,if_pos hb]⟩
 simp only [Bool.or_eq_false_iff,decide_eq_false_iff_not] at hb
 simp -implicitDefEqProofs (disch:=first|exact dz _|fail) only [↓qJ,qK,qL,qA,qB,qC,qD,qE,↓reduceIte,qG,qH,qI,g]
 refine callI_of (shape i.op h) ?_
 rintro r h1 ⟨rfl,rfl⟩
 simp -implicitDefEqProofs (disch:=first|exact dz _|fail) only [↓qJ,qK,qL,qA,qB,qC,qD,qE,↓reduceIte,qG,qH,qI]
 refine callI_of (plain C0) ?_
 rintro r h1 ⟨f1,rfl⟩
 simp -implicitDefEqProofs (disch:=first|exact dz _|fail) only [↓qJ,qK,qL,qA,qB,qC,qD,qE,↓reduceIte,qG,qH,qI]
 refine cI_bool (fun hc=>?_) (fun hc=>?_)
 ·have hc':formF i≠0:=by simpa using hc
  simp -implicitDefEqProofs (disch:=first|exact dz _|fail) only [↓qJ,qK,qL,qA,qB,qC,qD,qE,↓reduceIte,qG,qH,qI]
  subst hQ
  exact ⟨f1,by rw [insF,if_neg (by omega),if_pos hc']⟩
 have hc':¬ formF i≠0:=by simpa using hc
 have hl:=formF_len hc'
 have hm:insF p f i=bodyF p f i:=by rw [insF,if_neg (by omega),if_neg hc']
 rw [hm] at hQ
 have g1:=(f1.get c lt (by simp)).trans g
 have lt1:c<h1.n:=by have:=f1.n;omega
 simp -implicitDefEqProofs (disch:=first|exact dz _|fail) only [↓qJ,qK,qL,qA,qB,qC,qD,qE,↓reduceIte,qG,qH,qI,g1,cl]
 have fT:=(f1.pushTmp (.cells 0 false [.int .i64 0,.int .i64 0,.int .i64 0,.int .i64 0,.int .u64 0,.nils])).setTmp (i:=h1.n) f1.n (.cells 0 false [.int .i64 i.op,.int .i64 i.a,.int .i64 i.b,.int .i64 i.c,.int .u64 i.imm,lv])
 have gB:=AHeap.get_set_same (h1.push (.cells 0 false [.int .i64 0,.int .i64 0,.int .i64 0,.int .i64 0,.int .u64 0,.nils])) h1.n (.cells 0 false [.int .i64 i.op,.int .i64 i.a,.int .i64 i.b,.int .i64 i.c,.int .u64 i.imm,lv])
 have hn0:h1.n<((h1.push (.cells 0 false [.int .i64 0,.int .i64 0,.int .i64 0,.int .i64 0,.int .u64 0,.nils])).set h1.n (.cells 0 false [.int .i64 i.op,.int .i64 i.a,.int .i64 i.b,.int .i64 i.c,.int .u64 i.imm,lv])).n:=by simp
 generalize ((h1.push (.cells 0 false [.int .i64 0,.int .i64 0,.int .i64 0,.int .i64 0,.int .u64 0,.nils])).set h1.n (.cells 0 false [.int .i64 i.op,.int .i64 i.a,.int .i64 i.b,.int .i64 i.c,.int .u64 i.imm,lv]))=hT2 at *
 have C2:=C0.keep fT
 have R2:InsR hT2 i [.int .i64 i.op,.int .i64 i.a,.int .i64 i.b,.int .i64 i.c,.int .u64 i.imm,lv]:=⟨hi,lv,rfl,s7.keep fT⟩
 obtain ⟨X,hX⟩:∃ X,X=bodyF p f i:=⟨_,rfl⟩
 rw [←hX] at hQ
 rw [bodyF] at hX
 refine cI_or (t:=40) (s:=39) (x:=i.op) (by decide) [(42,48)] (by simp -implicitDefEqProofs (disch:=first|exact dz _|fail) only [↓qJ,qK,qL,qA,qB,qC,qD,qE,↓reduceIte,qG,qH,qI,gB]) (by simp -implicitDefEqProofs (disch:=first|exact dz _|fail) only [↓qJ,qK,qL,qA,qB,qC,qD,qE,↓reduceIte,qG,qH,qI,gB]) (by decide) ?_
 intro e' ht hk
 have e0':Env.val e' 0=.ptr c 0 0:=(hk 0 (by decide) (by decide)).trans (by simp -implicitDefEqProofs (disch:=first|exact dz _|fail) only [↓qJ,qK,qL,qA,qB,qC,qD,qE,↓reduceIte,qG,qH,qI,gB])
 have e4':Env.val e' 4=.ptr h1.n 0 0:=(hk 4 (by decide) (by decide)).trans (by simp -implicitDefEqProofs (disch:=first|exact dz _|fail) only [↓qJ,qK,qL,qA,qB,qC,qD,qE,↓reduceIte,qG,qH,qI,gB])
 have e39':Env.val e' 39=.int .i64 i.op:=(hk 39 (by decide) (by decide)).trans (by simp -implicitDefEqProofs (disch:=first|exact dz _|fail) only [↓qJ,qK,qL,qA,qB,qC,qD,qE,↓reduceIte,qG,qH,qI,gB])
 clear hk
 try clear e0
 have e0:=e0'
 clear e0'
 try clear e4
 have e4:=e4'
 clear e4'
 try clear e39
 have e39:=e39'
 clear e39'
 simp -implicitDefEqProofs (disch:=first|exact dz _|fail) only [↓qJ,qK,qL,qA,qB,qC,qD,qE,↓reduceIte,qG,qH,qI,ht]
 refine cI_bool (fun hb=>?_) (fun hb=>?_)
 ·have m:orB i.op [1,48]=true:=hb
  clear hb
  rw [if_pos m] at hX
  simp -implicitDefEqProofs (disch:=first|exact dz _|fail) only [↓qJ,qK,qL,qA,qB,qC,qD,qE,↓reduceIte,qG,qH,qI,e0,e4,gB,a_buildSlice,List.range,List.range.loop,List.getD_cons_zero,Nat.mod_one]
  refine callI_of (alike1 C2 _ _ 77 rfl number i.a) ?_
  rintro r h3 ⟨f3,rfl⟩
  simp -implicitDefEqProofs (disch:=first|exact dz _|fail) only [↓qJ,qK,qL,qA,qB,qC,qD,qE,↓reduceIte,qG,qH,qI]
  subst hQ
  exact ⟨fT.trans f3,by rw [hX]⟩
 have m:orB i.op [1,48]=false:=hb
 clear hb
 rw [if_neg (by simp [m])] at hX
 clear m
 clear ht
 simp -implicitDefEqProofs (disch:=first|exact dz _|fail) only [↓qJ,qK,qL,qA,qB,qC,qD,qE,↓reduceIte,qG,qH,qI,e0,e4,e39]
 refine cI_bool (fun hb=>?_) (fun hb=>?_)
 ·have m:orB i.op [2]=true:=(Bool.or_false _).trans hb
  clear hb
  rw [if_pos m] at hX
  simp -implicitDefEqProofs (disch:=first|exact dz _|fail) only [↓qJ,qK,qL,qA,qB,qC,qD,qE,↓reduceIte,qG,qH,qI,e0,e4,gB,a_buildSlice,List.range,List.range.loop,List.getD_cons_zero,Nat.mod_one]
  refine callI_of (alike2 C2 _ _ 78 rfl any i.a i.b) ?_
  rintro r h3 ⟨f3,rfl⟩
  simp -implicitDefEqProofs (disch:=first|exact dz _|fail) only [↓qJ,qK,qL,qA,qB,qC,qD,qE,↓reduceIte,qG,qH,qI]
  subst hQ
  exact ⟨fT.trans f3,by rw [hX]⟩
 have m:orB i.op [2]=false:=(Bool.or_false _).trans hb
 clear hb
 rw [if_neg (by simp [m])] at hX
 clear m
 simp -implicitDefEqProofs (disch:=first|exact dz _|fail) only [↓qJ,qK,qL,qA,qB,qC,qD,qE,↓reduceIte,qG,qH,qI,e0,e4,e39]
 refine cI_or (t:=57) (s:=39) (x:=i.op) (by decide) [(59,4),(60,5),(61,6),(62,7),(63,8),(64,9),(65,10),(66,11),(67,12),(68,13),(69,14)] (by simp -implicitDefEqProofs (disch:=first|exact dz _|fail) only [↓qJ,qK,qL,qA,qB,qC,qD,qE,↓reduceIte,qG,qH,qI,e0,e4,e39,gB]) (by simp -implicitDefEqProofs (disch:=first|exact dz _|fail) only [↓qJ,qK,qL,qA,qB,qC,qD,qE,↓reduceIte,qG,qH,qI,e0,e4,e39,gB]) (by decide) ?_
 intro e' ht hk
 have e0':Env.val e' 0=.ptr c 0 0:=(hk 0 (by decide) (by decide)).trans (by simp -implicitDefEqProofs (disch:=first|exact dz _|fail) only [↓qJ,qK,qL,qA,qB,qC,qD,qE,↓reduceIte,qG,qH,qI,e0,e4,e39,gB])
 have e4':Env.val e' 4=.ptr h1.n 0 0:=(hk 4 (by decide) (by decide)).trans (by simp -implicitDefEqProofs (disch:=first|exact dz _|fail) only [↓qJ,qK,qL,qA,qB,qC,qD,qE,↓reduceIte,qG,qH,qI,e0,e4,e39,gB])
 have e39':Env.val e' 39=.int .i64 i.op:=(hk 39 (by decide) (by decide)).trans (by simp -implicitDefEqProofs (disch:=first|exact dz _|fail) only [↓qJ,qK,qL,qA,qB,qC,qD,qE,↓reduceIte,qG,qH,qI,e0,e4,e39,gB])
 clear hk
 try clear e0
 have e0:=e0'
 clear e0'
 try clear e4
 have e4:=e4'
 clear e4'
 try clear e39
 have e39:=e39'
 clear e39'
 simp -implicitDefEqProofs (disch:=first|exact dz _|fail) only [↓qJ,qK,qL,qA,qB,qC,qD,qE,↓reduceIte,qG,qH,qI,ht]
 refine cI_bool (fun hb=>?_) (fun hb=>?_)
 ·have m:orB i.op [3,4,5,6,7,8,9,10,11,12,13,14]=true:=hb
  clear hb
  rw [if_pos m] at hX
  simp -implicitDefEqProofs (disch:=first|exact dz _|fail) only [↓qJ,qK,qL,qA,qB,qC,qD,qE,↓reduceIte,qG,qH,qI,e0,e4,gB,a_buildSlice,List.range,List.range.loop,List.getD_cons_zero,Nat.mod_one]
  refine callI_of (are3 C2 i.a 0 i.b 0 i.c 0) ?_
  rintro r h3 ⟨f3,rfl⟩
  simp -implicitDefEqProofs (disch:=first|exact dz _|fail) only [↓qJ,qK,qL,qA,qB,qC,qD,qE,↓reduceIte,qG,qH,qI]
  subst hQ
  exact ⟨fT.trans f3,by rw [hX]⟩
 have m:orB i.op [3,4,5,6,7,8,9,10,11,12,13,14]=false:=hb
 clear hb
 rw [if_neg (by simp [m])] at hX
 clear m
 clear ht
 simp -implicitDefEqProofs (disch:=first|exact dz _|fail) only [↓qJ,qK,qL,qA,qB,qC,qD,qE,↓reduceIte,qG,qH,qI,e0,e4,e39]
 refine cI_or (t:=79) (s:=39) (x:=i.op) (by decide) [(81,16),(82,17),(83,18)] (by simp -implicitDefEqProofs (disch:=first|exact dz _|fail) only [↓qJ,qK,qL,qA,qB,qC,qD,qE,↓reduceIte,qG,qH,qI,e0,e4,e39,gB]) (by simp -implicitDefEqProofs (disch:=first|exact dz _|fail) only [↓qJ,qK,qL,qA,qB,qC,qD,qE,↓reduceIte,qG,qH,qI,e0,e4,e39,gB]) (by decide) ?_
 intro e' ht hk
 have e0':Env.val e' 0=.ptr c 0 0:=(hk 0 (by decide) (by decide)).trans (by simp -implicitDefEqProofs (disch:=first|exact dz _|fail) only [↓qJ,qK,qL,qA,qB,qC,qD,qE,↓reduceIte,qG,qH,qI,e0,e4,e39,gB])
 have e4':Env.val e' 4=.ptr h1.n 0 0:=(hk 4 (by decide) (by decide)).trans (by simp -implicitDefEqProofs (disch:=first|exact dz _|fail) only [↓qJ,qK,qL,qA,qB,qC,qD,qE,↓reduceIte,qG,qH,qI,e0,e4,e39,gB])
 have e39':Env.val e' 39=.int .i64 i.op:=(hk 39 (by decide) (by decide)).trans (by simp -implicitDefEqProofs (disch:=first|exact dz _|fail) only [↓qJ,qK,qL,qA,qB,qC,qD,qE,↓reduceIte,qG,qH,qI,e0,e4,e39,gB])
 clear hk
 try clear e0
 have e0:=e0'
 clear e0'
 try clear e4
 have e4:=e4'
 clear e4'
 try clear e39
 have e39:=e39'
 clear e39'
 simp -implicitDefEqProofs (disch:=first|exact dz _|fail) only [↓qJ,qK,qL,qA,qB,qC,qD,qE,↓reduceIte,qG,qH,qI,ht]
 refine cI_bool (fun hb=>?_) (fun hb=>?_)
 ·have m:orB i.op [15,16,17,18]=true:=hb
  clear hb
  rw [if_pos m] at hX
  simp -implicitDefEqProofs (disch:=first|exact dz _|fail) only [↓qJ,qK,qL,qA,qB,qC,qD,qE,↓reduceIte,qG,qH,qI,e0,e4,gB,a_buildSlice,List.range,List.range.loop,List.getD_cons_zero,Nat.mod_one]
  refine callI_of (are3 C2 i.a 1 i.b 1 i.c 1) ?_
  rintro r h3 ⟨f3,rfl⟩
  simp -implicitDefEqProofs (disch:=first|exact dz _|fail) only [↓qJ,qK,qL,qA,qB,qC,qD,qE,↓reduceIte,qG,qH,qI]
  subst hQ
  exact ⟨fT.trans f3,by rw [hX]⟩
 have m:orB i.op [15,16,17,18]=false:=hb
 clear hb
 rw [if_neg (by simp [m])] at hX
 clear m
 clear ht
 simp -implicitDefEqProofs (disch:=first|exact dz _|fail) only [↓qJ,qK,qL,qA,qB,qC,qD,qE,↓reduceIte,qG,qH,qI,e0,e4,e39]
 refine cI_or (t:=93) (s:=39) (x:=i.op) (by decide) [(95,20)] (by simp -implicitDefEqProofs (disch:=first|exact dz _|fail) only [↓qJ,qK,qL,qA,qB,qC,qD,qE,↓reduceIte,qG,qH,qI,e0,e4,e39,gB]) (by simp -implicitDefEqProofs (disch:=first|exact dz _|fail) only [↓qJ,qK,qL,qA,qB,qC,qD,qE,↓reduceIte,qG,qH,qI,e0,e4,e39,gB]) (by decide) ?_
 intro e' ht hk
 have e0':Env.val e' 0=.ptr c 0 0:=(hk 0 (by decide) (by decide)).trans (by simp -implicitDefEqProofs (disch:=first|exact dz _|fail) only [↓qJ,qK,qL,qA,qB,qC,qD,qE,↓reduceIte,qG,qH,qI,e0,e4,e39,gB])
 have e4':Env.val e' 4=.ptr h1.n 0 0:=(hk 4 (by decide) (by decide)).trans (by simp -implicitDefEqProofs (disch:=first|exact dz _|fail) only [↓qJ,qK,qL,qA,qB,qC,qD,qE,↓reduceIte,qG,qH,qI,e0,e4,e39,gB])
 have e39':Env.val e' 39=.int .i64 i.op:=(hk 39 (by decide) (by decide)).trans (by simp -implicitDefEqProofs (disch:=first|exact dz _|fail) only [↓qJ,qK,qL,qA,qB,qC,qD,qE,↓reduceIte,qG,qH,qI,e0,e4,e39,gB])
 clear hk
 try clear e0
 have e0:=e0'
 clear e0'
 try clear e4
 have e4:=e4'
 clear e4'
 try clear e39
 have e39:=e39'
 clear e39'
 simp -implicitDefEqProofs (disch:=first|exact dz _|fail) only [↓qJ,qK,qL,qA,qB,qC,qD,qE,↓reduceIte,qG,qH,qI,ht]
 refine cI_bool (fun hb=>?_) (fun hb=>?_)
 ·have m:orB i.op [19,20]=true:=hb
  clear hb
  rw [if_pos m] at hX
  simp -implicitDefEqProofs (disch:=first|exact dz _|fail) only [↓qJ,qK,qL,qA,qB,qC,qD,qE,↓reduceIte,qG,qH,qI,e0,e4,gB,a_buildSlice,List.range,List.range.loop,List.getD_cons_zero,Nat.mod_one]
  refine callI_of (are3 C2 i.a 0 i.b 1 i.c 1) ?_
  rintro r h3 ⟨f3,rfl⟩
  simp -implicitDefEqProofs (disch:=first|exact dz _|fail) only [↓qJ,qK,qL,qA,qB,qC,qD,qE,↓reduceIte,qG,qH,qI]
  subst hQ
  exact ⟨fT.trans f3,by rw [hX]⟩
 have m:orB i.op [19,20]=false:=hb
 clear hb
 rw [if_neg (by simp [m])] at hX
 clear m
 clear ht
 simp -implicitDefEqProofs (disch:=first|exact dz _|fail) only [↓qJ,qK,qL,qA,qB,qC,qD,qE,↓reduceIte,qG,qH,qI,e0,e4,e39]
 refine cI_bool (fun hb=>?_) (fun hb=>?_)
 ·have m:orB i.op [21]=true:=(Bool.or_false _).trans hb
  clear hb
  rw [if_pos m] at hX
  simp -implicitDefEqProofs (disch:=first|exact dz _|fail) only [↓qJ,qK,qL,qA,qB,qC,qD,qE,↓reduceIte,qG,qH,qI,e0,e4,gB,a_buildSlice,List.range,List.range.loop,List.getD_cons_zero,Nat.mod_one]
  refine callI_of (are2 C2 i.a 1 i.b 0) ?_
  rintro r h3 ⟨f3,rfl⟩
  simp -implicitDefEqProofs (disch:=first|exact dz _|fail) only [↓qJ,qK,qL,qA,qB,qC,qD,qE,↓reduceIte,qG,qH,qI]
  subst hQ
  exact ⟨fT.trans f3,by rw [hX]⟩
 have m:orB i.op [21]=false:=(Bool.or_false _).trans hb
 clear hb
 rw [if_neg (by simp [m])] at hX
 clear m
 simp -implicitDefEqProofs (disch:=first|exact dz _|fail) only [↓qJ,qK,qL,qA,qB,qC,qD,qE,↓reduceIte,qG,qH,qI,e0,e4,e39]
 refine cI_or (t:=114) (s:=39) (x:=i.op) (by decide) [(116,40)] (by simp -implicitDefEqProofs (disch:=first|exact dz _|fail) only [↓qJ,qK,qL,qA,qB,qC,qD,qE,↓reduceIte,qG,qH,qI,e0,e4,e39,gB]) (by simp -implicitDefEqProofs (disch:=first|exact dz _|fail) only [↓qJ,qK,qL,qA,qB,qC,qD,qE,↓reduceIte,qG,qH,qI,e0,e4,e39,gB]) (by decide) ?_
 intro e' ht hk
 have e0':Env.val e' 0=.ptr c 0 0:=(hk 0 (by decide) (by decide)).trans (by simp -implicitDefEqProofs (disch:=first|exact dz _|fail) only [↓qJ,qK,qL,qA,qB,qC,qD,qE,↓reduceIte,qG,qH,qI,e0,e4,e39,gB])
 have e4':Env.val e' 4=.ptr h1.n 0 0:=(hk 4 (by decide) (by decide)).trans (by simp -implicitDefEqProofs (disch:=first|exact dz _|fail) only [↓qJ,qK,qL,qA,qB,qC,qD,qE,↓reduceIte,qG,qH,qI,e0,e4,e39,gB])
 have e39':Env.val e' 39=.int .i64 i.op:=(hk 39 (by decide) (by decide)).trans (by simp -implicitDefEqProofs (disch:=first|exact dz _|fail) only [↓qJ,qK,qL,qA,qB,qC,qD,qE,↓reduceIte,qG,qH,qI,e0,e4,e39,gB])
 clear hk
 try clear e0
 have e0:=e0'
 clear e0'
 try clear e4
 have e4:=e4'
 clear e4'
 try clear e39
 have e39:=e39'
 clear e39'
 simp -implicitDefEqProofs (disch:=first|exact dz _|fail) only [↓qJ,qK,qL,qA,qB,qC,qD,qE,↓reduceIte,qG,qH,qI,ht]
 refine cI_bool (fun hb=>?_) (fun hb=>?_)
 ·have m:orB i.op [22,40]=true:=hb
  clear hb
  rw [if_pos m] at hX
  simp -implicitDefEqProofs (disch:=first|exact dz _|fail) only [↓qJ,qK,qL,qA,qB,qC,qD,qE,↓reduceIte,qG,qH,qI,e0,e4,gB]
  refine cI_bool (fun hd=>?_) (fun hd=>?_)
  ·simp only [decide_eq_true_eq] at hd
   rw [if_pos hd] at hX
   simp -implicitDefEqProofs (disch:=first|exact dz _|fail) only [↓qJ,qK,qL,qA,qB,qC,qD,qE,↓reduceIte,qG,qH,qI,e0,e4,gB,a_buildSlice,List.range,List.range.loop,List.getD_cons_zero,Nat.mod_one]
   refine callI_of (are2 C2 i.a 0 i.b 0) ?_
   rintro r h3 ⟨f3,rfl⟩
   simp -implicitDefEqProofs (disch:=first|exact dz _|fail) only [↓qJ,qK,qL,qA,qB,qC,qD,qE,↓reduceIte,qG,qH,qI]
   subst hQ
   exact ⟨fT.trans f3,by rw [hX]⟩
  ·simp only [decide_eq_false_iff_not] at hd
   rw [if_neg hd] at hX
   simp -implicitDefEqProofs (disch:=first|exact dz _|fail) only [↓qJ,qK,qL,qA,qB,qC,qD,qE,↓reduceIte,qG,qH,qI,e0,e4,gB,a_buildSlice,List.range,List.range.loop,List.getD_cons_zero,Nat.mod_one]
   refine callI_of (are2 C2 i.a 0 i.b 1) ?_
   rintro r h3 ⟨f3,rfl⟩
   simp -implicitDefEqProofs (disch:=first|exact dz _|fail) only [↓qJ,qK,qL,qA,qB,qC,qD,qE,↓reduceIte,qG,qH,qI]
   subst hQ
   exact ⟨fT.trans f3,by rw [hX]⟩
 have m:orB i.op [22,40]=false:=hb
 clear hb
 rw [if_neg (by simp [m])] at hX
 clear m
 clear ht
 simp -implicitDefEqProofs (disch:=first|exact dz _|fail) only [↓qJ,qK,qL,qA,qB,qC,qD,qE,↓reduceIte,qG,qH,qI,e0,e4,e39]
 refine cI_bool (fun hb=>?_) (fun hb=>?_)
 ·have m:orB i.op [23]=true:=(Bool.or_false _).trans hb
  clear hb
  rw [if_pos m] at hX
  simp -implicitDefEqProofs (disch:=first|exact dz _|fail) only [↓qJ,qK,qL,qA,qB,qC,qD,qE,↓reduceIte,qG,qH,qI,e0,e4,gB,a_buildSlice,List.range,List.range.loop,List.getD_cons_zero,Nat.mod_one]
  refine callI_of (are1 C2 i.a 0) ?_
  rintro r h3 ⟨f3,rfl⟩
  have gB3:=(f3.get h1.n hn0 (by simp)).trans gB
  have hn3:h1.n<h3.n:=by have:=f3.n;omega
  simp -implicitDefEqProofs (disch:=first|exact dz _|fail) only [↓qJ,qK,qL,qA,qB,qC,qD,qE,↓reduceIte,qG,qH,qI]
  refine cI_bool (fun hd=>?_) (fun hd=>?_)
  ·have hd':areF f.slots [(i.a,0)]≠0:=by simpa using hd
   rw [if_pos hd'] at hX
   simp -implicitDefEqProofs (disch:=first|exact dz _|fail) only [↓qJ,qK,qL,qA,qB,qC,qD,qE,↓reduceIte,qG,qH,qI]
   subst hQ
   exact ⟨fT.trans f3,by rw [hX]⟩
  ·have hd':¬ areF f.slots [(i.a,0)]≠0:=by simpa using hd
   rw [if_neg hd'] at hX
   simp -implicitDefEqProofs (disch:=first|exact dz _|fail) only [↓qJ,qK,qL,qA,qB,qC,qD,qE,↓reduceIte,qG,qH,qI,e0,e4,gB3,a_buildSlice,List.range,List.range.loop,List.getD_cons_zero,Nat.mod_one]
   refine callI_of (alike2 (C2.keep f3) _ _ 50 rfl isRef i.b i.c) ?_
   rintro r h4 ⟨f4,rfl⟩
   simp -implicitDefEqProofs (disch:=first|exact dz _|fail) only [↓qJ,qK,qL,qA,qB,qC,qD,qE,↓reduceIte,qG,qH,qI]
   subst hQ
   exact ⟨(fT.trans f3).trans f4,by rw [hX]⟩
 have m:orB i.op [23]=false:=(Bool.or_false _).trans hb
 clear hb
 rw [if_neg (by simp [m])] at hX
 clear m
 simp -implicitDefEqProofs (disch:=first|exact dz _|fail) only [↓qJ,qK,qL,qA,qB,qC,qD,qE,↓reduceIte,qG,qH,qI,e0,e4,e39]
 refine cI_or (t:=151) (s:=39) (x:=i.op) (by decide) [(153,25)] (by simp -implicitDefEqProofs (disch:=first|exact dz _|fail) only [↓qJ,qK,qL,qA,qB,qC,qD,qE,↓reduceIte,qG,qH,qI,e0,e4,e39,gB]) (by simp -implicitDefEqProofs (disch:=first|exact dz _|fail) only [↓qJ,qK,qL,qA,qB,qC,qD,qE,↓reduceIte,qG,qH,qI,e0,e4,e39,gB]) (by decide) ?_
 intro e' ht hk
 have e0':Env.val e' 0=.ptr c 0 0:=(hk 0 (by decide) (by decide)).trans (by simp -implicitDefEqProofs (disch:=first|exact dz _|fail) only [↓qJ,qK,qL,qA,qB,qC,qD,qE,↓reduceIte,qG,qH,qI,e0,e4,e39,gB])
 have e4':Env.val e' 4=.ptr h1.n 0 0:=(hk 4 (by decide) (by decide)).trans (by simp -implicitDefEqProofs (disch:=first|exact dz _|fail) only [↓qJ,qK,qL,qA,qB,qC,qD,qE,↓reduceIte,qG,qH,qI,e0,e4,e39,gB])
 have e39':Env.val e' 39=.int .i64 i.op:=(hk 39 (by decide) (by decide)).trans (by simp -implicitDefEqProofs (disch:=first|exact dz _|fail) only [↓qJ,qK,qL,qA,qB,qC,qD,qE,↓reduceIte,qG,qH,qI,e0,e4,e39,gB])
 clear hk
 try clear e0
 have e0:=e0'
 clear e0'
 try clear e4
 have e4:=e4'
 clear e4'
 try clear e39
 have e39:=e39'
 clear e39'
 simp -implicitDefEqProofs (disch:=first|exact dz _|fail) only [↓qJ,qK,qL,qA,qB,qC,qD,qE,↓reduceIte,qG,qH,qI,ht]
 refine cI_bool (fun hb=>?_) (fun hb=>?_)
 ·have m:orB i.op [24,25]=true:=hb
  clear hb
  rw [if_pos m] at hX
  simp -implicitDefEqProofs (disch:=first|exact dz _|fail) only [↓qJ,qK,qL,qA,qB,qC,qD,qE,↓reduceIte,qG,qH,qI,e0,e4,gB,a_buildSlice,List.range,List.range.loop,List.getD_cons_zero,Nat.mod_one]
  refine callI_of (jump C2 R2) ?_
  rintro r h3 ⟨f3,rfl⟩
  simp -implicitDefEqProofs (disch:=first|exact dz _|fail) only [↓qJ,qK,qL,qA,qB,qC,qD,qE,↓reduceIte,qG,qH,qI]
  subst hQ
  exact ⟨fT.trans f3,by rw [hX]⟩
 have m:orB i.op [24,25]=false:=hb
 clear hb
 rw [if_neg (by simp [m])] at hX
 clear m
 clear ht
 simp -implicitDefEqProofs (disch:=first|exact dz _|fail) only [↓qJ,qK,qL,qA,qB,qC,qD,qE,↓reduceIte,qG,qH,qI,e0,e4,e39]
 refine cI_or (t:=157) (s:=39) (x:=i.op) (by decide) [(159,46),(160,52)] (by simp -implicitDefEqProofs (disch:=first|exact dz _|fail) only [↓qJ,qK,qL,qA,qB,qC,qD,qE,↓reduceIte,qG,qH,qI,e0,e4,e39,gB]) (by simp -implicitDefEqProofs (disch:=first|exact dz _|fail) only [↓qJ,qK,qL,qA,qB,qC,qD,qE,↓reduceIte,qG,qH,qI,e0,e4,e39,gB]) (by decide) ?_
 intro e' ht hk
 have e0':Env.val e' 0=.ptr c 0 0:=(hk 0 (by decide) (by decide)).trans (by simp -implicitDefEqProofs (disch:=first|exact dz _|fail) only [↓qJ,qK,qL,qA,qB,qC,qD,qE,↓reduceIte,qG,qH,qI,e0,e4,e39,gB])
 have e4':Env.val e' 4=.ptr h1.n 0 0:=(hk 4 (by decide) (by decide)).trans (by simp -implicitDefEqProofs (disch:=first|exact dz _|fail) only [↓qJ,qK,qL,qA,qB,qC,qD,qE,↓reduceIte,qG,qH,qI,e0,e4,e39,gB])
 have e39':Env.val e' 39=.int .i64 i.op:=(hk 39 (by decide) (by decide)).trans (by simp -implicitDefEqProofs (disch:=first|exact dz _|fail) only [↓qJ,qK,qL,qA,qB,qC,qD,qE,↓reduceIte,qG,qH,qI,e0,e4,e39,gB])
 clear hk
 try clear e0
 have e0:=e0'
 clear e0'
 try clear e4
 have e4:=e4'
 clear e4'
 try clear e39
 have e39:=e39'
 clear e39'
 simp -implicitDefEqProofs (disch:=first|exact dz _|fail) only [↓qJ,qK,qL,qA,qB,qC,qD,qE,↓reduceIte,qG,qH,qI,ht]
 refine cI_bool (fun hb=>?_) (fun hb=>?_)
 ·have m:orB i.op [39,46,52]=true:=hb
  clear hb
  rw [if_pos m] at hX
  simp -implicitDefEqProofs (disch:=first|exact dz _|fail) only [↓qJ,qK,qL,qA,qB,qC,qD,qE,↓reduceIte,qG,qH,qI,e0,e4,gB,a_buildSlice,List.range,List.range.loop,List.getD_cons_zero,Nat.mod_one]
  refine callI_of (are1 C2 i.a 0) ?_
  rintro r h3 ⟨f3,rfl⟩
  simp -implicitDefEqProofs (disch:=first|exact dz _|fail) only [↓qJ,qK,qL,qA,qB,qC,qD,qE,↓reduceIte,qG,qH,qI]
  subst hQ
  exact ⟨fT.trans f3,by rw [hX]⟩
 have m:orB i.op [39,46,52]=false:=hb
 clear hb
 rw [if_neg (by simp [m])] at hX
 clear m
 clear ht
 simp -implicitDefEqProofs (disch:=first|exact dz _|fail) only [↓qJ,qK,qL,qA,qB,qC,qD,qE,↓reduceIte,qG,qH,qI,e0,e4,e39]
 refine cI_bool (fun hb=>?_) (fun hb=>?_)
 ·have m:orB i.op [47]=true:=(Bool.or_false _).trans hb
  clear hb
  rw [if_pos m] at hX
  simp -implicitDefEqProofs (disch:=first|exact dz _|fail) only [↓qJ,qK,qL,qA,qB,qC,qD,qE,↓reduceIte,qG,qH,qI]
  subst hQ
  exact ⟨fT,by rw [hX]⟩
 have m:orB i.op [47]=false:=(Bool.or_false _).trans hb
 clear hb
 rw [if_neg (by simp [m])] at hX
 clear m
 simp -implicitDefEqProofs (disch:=first|exact dz _|fail) only [↓qJ,qK,qL,qA,qB,qC,qD,qE,↓reduceIte,qG,qH,qI,e0,e4,e39]
 refine cI_or (t:=168) (s:=39) (x:=i.op) (by decide) [(170,51)] (by simp -implicitDefEqProofs (disch:=first|exact dz _|fail) only [↓qJ,qK,qL,qA,qB,qC,qD,qE,↓reduceIte,qG,qH,qI,e0,e4,e39,gB]) (by simp -implicitDefEqProofs (disch:=first|exact dz _|fail) only [↓qJ,qK,qL,qA,qB,qC,qD,qE,↓reduceIte,qG,qH,qI,e0,e4,e39,gB]) (by decide) ?_
 intro e' ht hk
 have e0':Env.val e' 0=.ptr c 0 0:=(hk 0 (by decide) (by decide)).trans (by simp -implicitDefEqProofs (disch:=first|exact dz _|fail) only [↓qJ,qK,qL,qA,qB,qC,qD,qE,↓reduceIte,qG,qH,qI,e0,e4,e39,gB])
 have e4':Env.val e' 4=.ptr h1.n 0 0:=(hk 4 (by decide) (by decide)).trans (by simp -implicitDefEqProofs (disch:=first|exact dz _|fail) only [↓qJ,qK,qL,qA,qB,qC,qD,qE,↓reduceIte,qG,qH,qI,e0,e4,e39,gB])
 have e39':Env.val e' 39=.int .i64 i.op:=(hk 39 (by decide) (by decide)).trans (by simp -implicitDefEqProofs (disch:=first|exact dz _|fail) only [↓qJ,qK,qL,qA,qB,qC,qD,qE,↓reduceIte,qG,qH,qI,e0,e4,e39,gB])
 clear hk
 try clear e0
 have e0:=e0'
 clear e0'
 try clear e4
 have e4:=e4'
 clear e4'
 try clear e39
 have e39:=e39'
 clear e39'
 simp -implicitDefEqProofs (disch:=first|exact dz _|fail) only [↓qJ,qK,qL,qA,qB,qC,qD,qE,↓reduceIte,qG,qH,qI,ht]
 refine cI_bool (fun hb=>?_) (fun hb=>?_)
 ·have m:orB i.op [49,51]=true:=hb
  clear hb
  rw [if_pos m] at hX
  simp -implicitDefEqProofs (disch:=first|exact dz _|fail) only [↓qJ,qK,qL,qA,qB,qC,qD,qE,↓reduceIte,qG,qH,qI,e0,e4,gB,a_buildSlice,List.range,List.range.loop,List.getD_cons_zero,Nat.mod_one]
  refine callI_of (are2 C2 i.a 2 i.b 0) ?_
  rintro r h3 ⟨f3,rfl⟩
  simp -implicitDefEqProofs (disch:=first|exact dz _|fail) only [↓qJ,qK,qL,qA,qB,qC,qD,qE,↓reduceIte,qG,qH,qI]
  subst hQ
  exact ⟨fT.trans f3,by rw [hX]⟩
 have m:orB i.op [49,51]=false:=hb
 clear hb
 rw [if_neg (by simp [m])] at hX
 clear m
 clear ht
 simp -implicitDefEqProofs (disch:=first|exact dz _|fail) only [↓qJ,qK,qL,qA,qB,qC,qD,qE,↓reduceIte,qG,qH,qI,e0,e4,e39]
 refine cI_bool (fun hb=>?_) (fun hb=>?_)
 ·have m:orB i.op [50]=true:=(Bool.or_false _).trans hb
  clear hb
  rw [if_pos m] at hX
  simp -implicitDefEqProofs (disch:=first|exact dz _|fail) only [↓qJ,qK,qL,qA,qB,qC,qD,qE,↓reduceIte,qG,qH,qI,e0,e4,gB,a_buildSlice,List.range,List.range.loop,List.getD_cons_zero,Nat.mod_one]
  refine callI_of (are2 C2 i.a 0 i.b 2) ?_
  rintro r h3 ⟨f3,rfl⟩
  simp -implicitDefEqProofs (disch:=first|exact dz _|fail) only [↓qJ,qK,qL,qA,qB,qC,qD,qE,↓reduceIte,qG,qH,qI]
  subst hQ
  exact ⟨fT.trans f3,by rw [hX]⟩
 have m:orB i.op [50]=false:=(Bool.or_false _).trans hb
 clear hb
 rw [if_neg (by simp [m])] at hX
 clear m
 simp -implicitDefEqProofs (disch:=first|exact dz _|fail) only [↓qJ,qK,qL,qA,qB,qC,qD,qE,↓reduceIte,qG,qH,qI,e0,e4,e39]
 refine cI_or (t:=187) (s:=39) (x:=i.op) (by decide) [(189,27),(190,28),(191,29),(192,30),(193,31),(194,32),(195,33),(196,34)] (by simp -implicitDefEqProofs (disch:=first|exact dz _|fail) only [↓qJ,qK,qL,qA,qB,qC,qD,qE,↓reduceIte,qG,qH,qI,e0,e4,e39,gB]) (by simp -implicitDefEqProofs (disch:=first|exact dz _|fail) only [↓qJ,qK,qL,qA,qB,qC,qD,qE,↓reduceIte,qG,qH,qI,e0,e4,e39,gB]) (by decide) ?_
 intro e' ht hk
 have e0':Env.val e' 0=.ptr c 0 0:=(hk 0 (by decide) (by decide)).trans (by simp -implicitDefEqProofs (disch:=first|exact dz _|fail) only [↓qJ,qK,qL,qA,qB,qC,qD,qE,↓reduceIte,qG,qH,qI,e0,e4,e39,gB])
 have e4':Env.val e' 4=.ptr h1.n 0 0:=(hk 4 (by decide) (by decide)).trans (by simp -implicitDefEqProofs (disch:=first|exact dz _|fail) only [↓qJ,qK,qL,qA,qB,qC,qD,qE,↓reduceIte,qG,qH,qI,e0,e4,e39,gB])
 have e39':Env.val e' 39=.int .i64 i.op:=(hk 39 (by decide) (by decide)).trans (by simp -implicitDefEqProofs (disch:=first|exact dz _|fail) only [↓qJ,qK,qL,qA,qB,qC,qD,qE,↓reduceIte,qG,qH,qI,e0,e4,e39,gB])
 clear hk
 try clear e0
 have e0:=e0'
 clear e0'
 try clear e4
 have e4:=e4'
 clear e4'
 try clear e39
 have e39:=e39'
 clear e39'
 simp -implicitDefEqProofs (disch:=first|exact dz _|fail) only [↓qJ,qK,qL,qA,qB,qC,qD,qE,↓reduceIte,qG,qH,qI,ht]
 refine cI_bool (fun hb=>?_) (fun hb=>?_)
 ·have m:orB i.op [26,27,28,29,30,31,32,33,34]=true:=hb
  clear hb
  rw [if_pos m] at hX
  simp -implicitDefEqProofs (disch:=first|exact dz _|fail) only [↓qJ,qK,qL,qA,qB,qC,qD,qE,↓reduceIte,qG,qH,qI,e0,e4,gB,a_buildSlice,List.range,List.range.loop,List.getD_cons_zero,Nat.mod_one]
  refine callI_of (memory C2 H T hT R2) ?_
  rintro r h3 ⟨f3,rfl⟩
  simp -implicitDefEqProofs (disch:=first|exact dz _|fail) only [↓qJ,qK,qL,qA,qB,qC,qD,qE,↓reduceIte,qG,qH,qI]
  subst hQ
  exact ⟨fT.trans f3,by rw [hX]⟩
 have m:orB i.op [26,27,28,29,30,31,32,33,34]=false:=hb
 clear hb
 rw [if_neg (by simp [m])] at hX
 clear m
 clear ht
 simp -implicitDefEqProofs (disch:=first|exact dz _|fail) only [↓qJ,qK,qL,qA,qB,qC,qD,qE,↓reduceIte,qG,qH,qI,e0,e4,e39]
 refine cI_or (t:=200) (s:=39) (x:=i.op) (by decide) [(202,36),(203,37),(204,38)] (by simp -implicitDefEqProofs (disch:=first|exact dz _|fail) only [↓qJ,qK,qL,qA,qB,qC,qD,qE,↓reduceIte,qG,qH,qI,e0,e4,e39,gB]) (by simp -implicitDefEqProofs (disch:=first|exact dz _|fail) only [↓qJ,qK,qL,qA,qB,qC,qD,qE,↓reduceIte,qG,qH,qI,e0,e4,e39,gB]) (by decide) ?_
 intro e' ht hk
 have e0':Env.val e' 0=.ptr c 0 0:=(hk 0 (by decide) (by decide)).trans (by simp -implicitDefEqProofs (disch:=first|exact dz _|fail) only [↓qJ,qK,qL,qA,qB,qC,qD,qE,↓reduceIte,qG,qH,qI,e0,e4,e39,gB])
 have e4':Env.val e' 4=.ptr h1.n 0 0:=(hk 4 (by decide) (by decide)).trans (by simp -implicitDefEqProofs (disch:=first|exact dz _|fail) only [↓qJ,qK,qL,qA,qB,qC,qD,qE,↓reduceIte,qG,qH,qI,e0,e4,e39,gB])
 have e39':Env.val e' 39=.int .i64 i.op:=(hk 39 (by decide) (by decide)).trans (by simp -implicitDefEqProofs (disch:=first|exact dz _|fail) only [↓qJ,qK,qL,qA,qB,qC,qD,qE,↓reduceIte,qG,qH,qI,e0,e4,e39,gB])
 clear hk
 try clear e0
 have e0:=e0'
 clear e0'
 try clear e4
 have e4:=e4'
 clear e4'
 try clear e39
 have e39:=e39'
 clear e39'
 simp -implicitDefEqProofs (disch:=first|exact dz _|fail) only [↓qJ,qK,qL,qA,qB,qC,qD,qE,↓reduceIte,qG,qH,qI,ht]
 refine cI_bool (fun hb=>?_) (fun hb=>?_)
 ·have m:orB i.op [35,36,37,38]=true:=hb
  clear hb
  rw [if_pos m] at hX
  simp -implicitDefEqProofs (disch:=first|exact dz _|fail) only [↓qJ,qK,qL,qA,qB,qC,qD,qE,↓reduceIte,qG,qH,qI,e0,e4,gB,a_buildSlice,List.range,List.range.loop,List.getD_cons_zero,Nat.mod_one]
  refine callI_of (calls C2 HP hl R2) ?_
  rintro r h3 ⟨f3,rfl⟩
  simp -implicitDefEqProofs (disch:=first|exact dz _|fail) only [↓qJ,qK,qL,qA,qB,qC,qD,qE,↓reduceIte,qG,qH,qI]
  subst hQ
  exact ⟨fT.trans f3,by rw [hX]⟩
 have m:orB i.op [35,36,37,38]=false:=hb
 clear hb
 rw [if_neg (by simp [m])] at hX
 clear m
 clear ht
 simp -implicitDefEqProofs (disch:=first|exact dz _|fail) only [↓qJ,qK,qL,qA,qB,qC,qD,qE,↓reduceIte,qG,qH,qI,e0,e4,e39,gB]
 refine callI_of (channels C2 H hl R2) ?_
 rintro r h3 ⟨f3,rfl⟩
 simp -implicitDefEqProofs (disch:=first|exact dz _|fail) only [↓qJ,qK,qL,qA,qB,qC,qD,qE,↓reduceIte,qG,qH,qI]
 subst hQ
 exact ⟨fT.trans f3,by rw [hX]⟩
end Go.Proofs.Ytnbnpjhlflcjeaa.Id.V
namespace Go.Proofs.Ytnbnpjhlflcjeaa.Id.V
open Go Go.AM Go.Proofs.Ytnbnpjhlflcjeaa.AmGF
open Nat renaming reduceAdd → qA,reduceLeDiff → qB,reduceEqDiff → qC,reduceLT → qE
open Int renaming reduceToNat → qD,reduceEq → qG,reduceLT → qH,reduceLE → qI
def firstE {α:Type} (f:α→Int):List α→Nat→Int×Int
 | [],_=>(0,0)
 | a::l,n=>if f a≠0 then (f a,n) else firstE f l (n+1)
theorem firstE_drop {α:Type} {f:α→Int} {l:List α} {i:Nat} {a:α} (h:l[i]?=some a):firstE f (l.drop i) i=if f a≠0 then (f a,(i:Int)) else firstE f (l.drop (i+1)) (i+1):=by
 obtain ⟨hi,rfl⟩:=List.getElem?_eq_some_iff.1 h
 rw [List.drop_eq_getElem_cons hi];rfl
def tyF (nt:Nat) (t:Bool×List Int):Int :=
 if 16<t.2.length∨t.2.length<1∨(t.1=true∧t.2.length≠1) then 16 else if t.2.any (fun k=>!kindF nt k)=true then 10 else 0
def typesF (p:PProg):Int×Int :=
 if 32<p.types.length∨32<p.globals.length∨32<p.funcs.length∨p.funcs.length<1 then (16,0)
 else if (firstE (tyF p.types.length) p.types 0).1≠0 then firstE (tyF p.types.length) p.types 0
 else firstE (fun k=>if kindF p.types.length k=true then 0 else 15) p.globals 0
set_option maxHeartbeats 4000000 in
theorem types {h:AHeap} {c:Nat} {p:PProg} {f:PFunc} {i:PIns} (C:CkR h c p f i) (ok:p.Ok) :
  CallP AP 54 [.ptr c 0 0] h fun r h'=>HFrame h h' [] []∧r=.tup [.int .i64 (typesF p).1,.int .i64 (typesF p).2]:=by
 refine callP (rfl:Tr.get AP 54=some A54) ?_
 generalize hQ:(fun (r:AVal) (h':AHeap)=>_)=Q
 have C0:=C
 obtain ⟨tv,gv,fv,sv,rv,cv,at_,lv,g,lt,s1,s2,s3,s4,s5,s6,hi,s7⟩:=C
 have l1:=s1.len
 have l2:=s2.len
 have l3:=s3.len
 simp -implicitDefEqProofs (disch:=first|exact dz _|fail) only [RGB,↓qJ,qK,qL,qA,qB,qC,qD,qE,↓reduceIte,qG,qH,qI,g,l1,l2,l3]
 refine cI_bool (fun hb=>?_) (fun hb=>?_)
 ·simp -implicitDefEqProofs (disch:=first|exact dz _|fail) only [↓qJ,qK,qL,qA,qB,qC,qD,qE,↓reduceIte,qG,qH,qI]
  simp only [Bool.or_eq_true,decide_eq_true_eq] at hb
  subst hQ
  exact ⟨HFrame.refl (by simp),by rw [typesF,if_pos (by omega)]⟩
 simp only [Bool.or_eq_false_iff,decide_eq_false_iff_not] at hb
 have hm:typesF p=if (firstE (tyF p.types.length) p.types 0).1≠0 then firstE (tyF p.types.length) p.types 0 else firstE (fun k=>if kindF p.types.length k=true then 0 else 15) p.globals 0:=by
  rw [typesF,if_neg (by omega)]
 simp -implicitDefEqProofs (disch:=first|exact dz _|fail) only [↓qJ,qK,qL,qA,qB,qC,qD,qE,↓reduceIte,qG,qH,qI,g,l1]
 refine loopI_of (fun k e h'=>∃ x:Nat,k+x=p.types.length∧e.val 0=.ptr c 0 0∧e.val 48=tv∧e.val 49=.int .i64 p.types.length∧e.val 50=.int .i64 x∧HFrame h h' [] []∧firstE (tyF p.types.length) p.types 0=firstE (tyF p.types.length) (p.types.drop x) x) p.types.length ?_ ?_
 ·refine ⟨0,by omega,?_,?_,?_,?_,HFrame.refl (by simp),by simp⟩<;>simp -implicitDefEqProofs (disch:=first|exact dz _|fail) only [↓qJ,qK,qL,qA,qB,qC,qD,qE,↓reduceIte,qG,qH,qI]<;>rfl
 ·rintro k e h' ⟨x,hk,e0,e48,e49,e50,fr,hF⟩
  simp -implicitDefEqProofs (disch:=first|exact dz _|fail) only [↓qJ,qK,qL,qA,qB,qC,qD,qE,↓reduceIte,qG,qH,qI,e48,e49,e50]
  refine cI_bool (fun hc=>?_) (fun hc=>?_)
  ·simp only [decide_eq_true_eq] at hc
   obtain ⟨t,ht⟩:∃ t,p.types[x]?=some t:=⟨_,List.getElem?_eq_getElem (by omega)⟩
   obtain ⟨j,g2,off,vs,ro,row,x1,x2,x3,x4,x5,x6,fl,rfl,xl⟩:=(s1.mono (h':=h') (R':=TypeR h) (fun _ _ q=>q) fr.n (fun j hj=>fr.get j hj (by simp))).ix ht .i64
   have cf:=SlIn.cellv xl
   have lx:=xl.len
   obtain ⟨p1,p2⟩:=two_of x5
   have hw:IntKind.i64.wrap ((x:Int)+1)=((x+1:Nat):Int):=wrap64 (by omega) (by omega)
   rw [firstE_drop ht] at hF
   simp -implicitDefEqProofs (disch:=first|exact dz _|fail) only [RGB,↓qJ,qK,qL,qA,qB,qC,qD,qE,↓reduceIte,qG,qH,qI,e0,e48,e49,e50,x1,x2,x5,cf,lx]
   have fT:=(fr.pushTmp (.cells 0 false [.bool false,.nils])).setTmp (i:=h'.n) fr.n (.cells 0 false [.bool t.1,fl])
   have gT:=AHeap.get_set_same (h'.push (.cells 0 false [.bool false,.nils])) h'.n (.cells 0 false [.bool t.1,fl])
   have nT:h'.n<((h'.push (.cells 0 false [.bool false,.nils])).set h'.n (.cells 0 false [.bool t.1,fl])).n:=by simp
   generalize ((h'.push (.cells 0 false [.bool false,.nils])).set h'.n (.cells 0 false [.bool t.1,fl]))=hA at *
   refine cI_bool (fun hd=>?_) (fun hd=>?_)
   ·simp -implicitDefEqProofs (disch:=first|exact dz _|fail) only [↓qJ,qK,qL,qA,qB,qC,qD,qE,↓reduceIte,qG,qH,qI,e50]
    have h16:tyF p.types.length t=16:=by
     rw [tyF,if_pos]
     simp only [Bool.or_eq_true,Bool.and_eq_true,decide_eq_true_eq,Bool.not_eq_true',decide_eq_false_iff_not] at hd
     rcases hd with (q | q) | ⟨q1,q2⟩
     ·exact .inl (by omega)
     ·exact .inr (.inl (by omega))
     ·exact .inr (.inr ⟨q1,by omega⟩)
    rw [h16] at hF
    subst hQ
    exact ⟨fT,by rw [hm,hF];rfl⟩
   ·have hty:tyF p.types.length t=if t.2.any (fun k=>!kindF p.types.length k)=true then 10 else 0:=by
     rw [tyF,if_neg]
     simp only [Bool.or_eq_false_iff,Bool.and_eq_false_iff,decide_eq_false_iff_not,Bool.not_eq_false',decide_eq_true_eq,Bool.not_eq_true'] at hd
     rintro (q | q | ⟨q1,q2⟩)
     ·omega
     ·omega
     ·rw [q1] at hd;simp at hd;omega
    have h16:t.2.length≤16:=by
     simp only [Bool.or_eq_false_iff,decide_eq_false_iff_not] at hd
     omega
    simp -implicitDefEqProofs (disch:=first|exact dz _|fail) only [↓qJ,qK,qL,qA,qB,qC,qD,qE,↓reduceIte,qG,qH,qI,gT,lx]
    refine loopI_of (fun k e h2=>∃ y:Nat,k+y=t.2.length∧e.val 0=.ptr c 0 0∧e.val 4=.int .i64 x∧e.val 48=tv∧e.val 49=.int .i64 p.types.length∧e.val 50=.int .i64 x∧e.val 77=fl∧e.val 78=.int .i64 t.2.length∧e.val 79=.int .i64 y∧h2=hA ∧
     t.2.any (fun k=>!kindF p.types.length k)=(t.2.drop y).any (fun k=>!kindF p.types.length k)) t.2.length ?_ ?_
    ·refine ⟨0,by omega,?_,?_,?_,?_,?_,?_,?_,?_,rfl,by simp⟩<;>simp -implicitDefEqProofs (disch:=first|exact dz _|fail) only [↓qJ,qK,qL,qA,qB,qC,qD,qE,↓reduceIte,qG,qH,qI,e0,e48,e49,e50]<;>rfl
    ·clear e0 e48 e49 e50
     rintro k e h2 ⟨y,hky,e0,e4,e48,e49,e50,e77,e78,e79,hh,hA2⟩
     subst hh
     simp -implicitDefEqProofs (disch:=first|exact dz _|fail) only [↓qJ,qK,qL,qA,qB,qC,qD,qE,↓reduceIte,qG,qH,qI,e77,e78,e79]
     refine cI_bool (fun he=>?_) (fun he=>?_)
     ·simp only [decide_eq_true_eq] at he
      obtain ⟨a,ha⟩:∃ a,t.2[y]?=some a:=⟨_,List.getElem?_eq_getElem (by omega)⟩
      obtain ⟨j2,g3,off2,vs2,ro2,y1,y2,y3,y5⟩:=((xl.keep fT).rd ha).ix1 (enc:=fun n=>.int .i64 n) ha .i64
      have hw2:IntKind.i64.wrap ((y:Int)+1)=((y+1:Nat):Int):=wrap64 (by omega) (by omega)
      rw [any_drop ha] at hA2
      simp -implicitDefEqProofs (disch:=first|exact dz _|fail) only [↓qJ,qK,qL,qA,qB,qC,qD,qE,↓reduceIte,qG,qH,qI,e0,e77,e78,e79,y1,y2,y5]
      refine callI_of (kind (C0.keep fT) a (ok.types t (List.mem_of_getElem? ht) a (List.mem_of_getElem? ha))) ?_
      rintro r h3 ⟨rfl,rfl⟩
      simp -implicitDefEqProofs (disch:=first|exact dz _|fail) only [↓qJ,qK,qL,qA,qB,qC,qD,qE,↓reduceIte,qG,qH,qI]
      refine cI_bool (fun hf=>?_) (fun hf=>?_)
      ·simp -implicitDefEqProofs (disch:=first|exact dz _|fail) only [↓qJ,qK,qL,qA,qB,qC,qD,qE,↓reduceIte,qG,qH,qI,e4]
       rw [hf,Bool.true_or] at hA2
       rw [hty,if_pos hA2] at hF
       subst hQ
       exact ⟨fT,by rw [hm,hF];rfl⟩
      ·rw [hf,Bool.false_or] at hA2
       simp -implicitDefEqProofs (disch:=first|exact dz _|fail) only [↓qJ,qK,qL,qA,qB,qC,qD,qE,↓reduceIte,qG,qH,qI,e0,e4,e48,e49,e50,e77,e78,e79,hw2]
       exact ⟨t.2.length-(y+1),by omega,y+1,by omega,rfl,hA2⟩
     ·simp only [decide_eq_false_iff_not] at he
      rw [List.drop_of_length_le (by omega),List.any_nil] at hA2
      rw [hty,hA2,if_neg (by simp)] at hF
      simp -implicitDefEqProofs (disch:=first|exact dz _|fail) only [↓qJ,qK,qL,qA,qB,qC,qD,qE,↓reduceIte,qG,qH,qI,e0,e48,e49,e50,hw]
      exact ⟨p.types.length-(x+1),by omega,x+1,by omega,rfl,fT,hF⟩
  ·simp only [decide_eq_false_iff_not] at hc
   rw [List.drop_of_length_le (by omega)] at hF
   have hm2:typesF p=firstE (fun k=>if kindF p.types.length k=true then 0 else 15) p.globals 0:=by rw [hm,hF];rfl
   have g':=(fr.get c lt (by simp)).trans g
   have lt':c<h'.n:=by have:=fr.n;omega
   simp -implicitDefEqProofs (disch:=first|exact dz _|fail) only [↓qJ,qK,qL,qA,qB,qC,qD,qE,↓reduceIte,qG,qH,qI,e0,g',l2]
   refine loopI_of (fun k e h2=>∃ x:Nat,k+x=p.globals.length∧e.val 0=.ptr c 0 0∧e.val 94=gv∧e.val 95=.int .i64 p.globals.length∧e.val 96=.int .i64 x∧h2=h'∧firstE (fun k=>if kindF p.types.length k=true then (0:Int) else 15) p.globals 0=firstE (fun k=>if kindF p.types.length k=true then (0:Int) else 15) (p.globals.drop x) x) p.globals.length ?_ ?_
   ·refine ⟨0,by omega,?_,?_,?_,?_,rfl,by simp⟩<;>simp -implicitDefEqProofs (disch:=first|exact dz _|fail) only [↓qJ,qK,qL,qA,qB,qC,qD,qE,↓reduceIte,qG,qH,qI,e0]<;>rfl
   ·clear e0 e48 e49 e50 hk hc
    rintro k e h2 ⟨x,hk,e0,e94,e95,e96,hh,hF⟩
    subst hh
    simp -implicitDefEqProofs (disch:=first|exact dz _|fail) only [↓qJ,qK,qL,qA,qB,qC,qD,qE,↓reduceIte,qG,qH,qI,e94,e95,e96]
    refine cI_bool (fun hc=>?_) (fun hc=>?_)
    ·simp only [decide_eq_true_eq] at hc
     obtain ⟨a,ha⟩:∃ a,p.globals[x]?=some a:=⟨_,List.getElem?_eq_getElem (by omega)⟩
     obtain ⟨j2,g3,off2,vs2,ro2,y1,y2,y3,y5⟩:=((s2.keep fr).rd ha).ix1 (enc:=fun n=>.int .i64 n) ha .i64
     have hw2:IntKind.i64.wrap ((x:Int)+1)=((x+1:Nat):Int):=wrap64 (by omega) (by omega)
     rw [firstE_drop ha] at hF
     simp -implicitDefEqProofs (disch:=first|exact dz _|fail) only [↓qJ,qK,qL,qA,qB,qC,qD,qE,↓reduceIte,qG,qH,qI,e0,e94,e95,e96,y1,y2,y5]
     refine callI_of (kind (C0.keep fr) a (ok.globals a (List.mem_of_getElem? ha))) ?_
     rintro r h3 ⟨rfl,rfl⟩
     simp -implicitDefEqProofs (disch:=first|exact dz _|fail) only [↓qJ,qK,qL,qA,qB,qC,qD,qE,↓reduceIte,qG,qH,qI]
     refine cI_bool (fun hf=>?_) (fun hf=>?_)
     ·simp -implicitDefEqProofs (disch:=first|exact dz _|fail) only [↓qJ,qK,qL,qA,qB,qC,qD,qE,↓reduceIte,qG,qH,qI]
      have hf':kindF p.types.length a=false:=by simpa using hf
      rw [hf'] at hF
      subst hQ
      exact ⟨fr,by rw [hm2,hF];rfl⟩
     ·have hf':kindF p.types.length a=true:=by simpa using hf
      rw [hf'] at hF
      simp -implicitDefEqProofs (disch:=first|exact dz _|fail) only [↓qJ,qK,qL,qA,qB,qC,qD,qE,↓reduceIte,qG,qH,qI,e0,e94,e95,e96,hw2]
      exact ⟨p.globals.length-(x+1),by omega,x+1,by omega,rfl,hF⟩
    ·simp only [decide_eq_false_iff_not] at hc
     rw [List.drop_of_length_le (by omega)] at hF
     simp -implicitDefEqProofs (disch:=first|exact dz _|fail) only [↓qJ,qK,qL,qA,qB,qC,qD,qE,↓reduceIte,qG,qH,qI]
     subst hQ
     exact ⟨fr,by rw [hm2,hF];rfl⟩
end Go.Proofs.Ytnbnpjhlflcjeaa.Id.V
namespace Go.Proofs.Ytnbnpjhlflcjeaa.Id.V
open Go Go.AM Go.Proofs.Ytnbnpjhlflcjeaa.AmGF
open Nat renaming reduceAdd → qA,reduceLeDiff → qB,reduceEqDiff → qC,reduceLT → qE
open Int renaming reduceToNat → qD,reduceEq → qG,reduceLT → qH,reduceLE → qI
def slotsBad (nt:Nat) (k:Int):Bool:=!decide (k=2)&&!kindF nt k
def lastF (l:List PIns):Int:=if orB ((l.getLast?.map (·.op)).getD 0) [36,24,52,39]=true then 0 else 7
def headF (nt:Nat) (f:PFunc) (first:Bool):Int :=
 if 32<f.slots.length∨32<f.results.length∨256<f.code.length∨f.params<0∨f.slots.length<f.params then 16
 else if first=true∧(f.params≠0∨f.results.length≠0) then 13
 else if f.slots.any (slotsBad nt)=true then 10
 else if f.results.any (fun k=>!kindF nt k)=true then 10
 else if f.code.length=0 then 7 else lastF f.code
set_option maxHeartbeats 4000000 in
theorem head {h:AHeap} {c:Nat} {p:PProg} {f:PFunc} {i:PIns} (C:CkR h c p f i) (ok:f.Ok) (first:Bool) :
  CallP AP 55 [.ptr c 0 0,.bool first] h fun r h'=>HFrame h h' [] []∧r=.int .i64 (headF p.types.length f first):=by
 refine callP (rfl:Tr.get AP 55=some A55) ?_
 generalize hQ:(fun (r:AVal) (h':AHeap)=>_)=Q
 have C0:=C
 obtain ⟨tv,gv,fv,sv,rv,cv,at_,lv,g,lt,s1,s2,s3,s4,s5,s6,hi,s7⟩:=C
 have l4:=s4.len
 have l5:=s5.len
 have l6:=s6.len
 have c4:=SlIn.cellv s4
 have c5:=SlIn.cellv s5
 have c6:=SlR.cellv s6
 have fT:=((HFrame.refl (h:=h) (F:=[]) (by simp)).pushTmp (.cells 0 false [.int .i64 0,.nils,.nils,.nils])).setTmp (i:=h.n) (Nat.le_refl _) (.cells 0 false [.int .i64 f.params,sv,rv,cv])
 have gB:=AHeap.get_set_same (h.push (.cells 0 false [.int .i64 0,.nils,.nils,.nils])) h.n (.cells 0 false [.int .i64 f.params,sv,rv,cv])
 have hn0:h.n<((h.push (.cells 0 false [.int .i64 0,.nils,.nils,.nils])).set h.n (.cells 0 false [.int .i64 f.params,sv,rv,cv])).n:=by simp
 simp -implicitDefEqProofs (disch:=first|exact dz _|fail) only [RGB,↓qJ,qK,qL,qA,qB,qC,qD,qE,↓reduceIte,qG,qH,qI,g,l4,l5,l6,c4,c5,c6]
 generalize ((h.push (.cells 0 false [.int .i64 0,.nils,.nils,.nils])).set h.n (.cells 0 false [.int .i64 f.params,sv,rv,cv]))=h1 at *
 have C1:=C0.keep fT
 refine cI_bool (fun hb=>?_) (fun hb=>?_)
 ·simp -implicitDefEqProofs (disch:=first|exact dz _|fail) only [↓qJ,qK,qL,qA,qB,qC,qD,qE,↓reduceIte,qG,qH,qI]
  simp only [Bool.or_eq_true,decide_eq_true_eq] at hb
  subst hQ
  exact ⟨fT,by rw [headF,if_pos (by omega)]⟩
 simp only [Bool.or_eq_false_iff,decide_eq_false_iff_not] at hb
 obtain ⟨X,hX⟩:∃ X,X=headF p.types.length f first:=⟨_,rfl⟩
 rw [←hX] at hQ
 rw [headF,if_neg (by omega)] at hX
 simp -implicitDefEqProofs (disch:=first|exact dz _|fail) only [RGB,↓qJ,qK,qL,qA,qB,qC,qD,qE,↓reduceIte,qG,qH,qI,gB,l5]
 refine cI_bool (fun hc=>?_) (fun hc=>?_)
 ·simp -implicitDefEqProofs (disch:=first|exact dz _|fail) only [↓qJ,qK,qL,qA,qB,qC,qD,qE,↓reduceIte,qG,qH,qI]
  rw [if_pos (by simpa using hc)] at hX
  subst hQ
  exact ⟨fT,by rw [hX]⟩
 rw [if_neg (by rintro ⟨rfl,q⟩;revert hc;rcases q with q | q<;>simp [q])] at hX
 simp -implicitDefEqProofs (disch:=first|exact dz _|fail) only [↓qJ,qK,qL,qA,qB,qC,qD,qE,↓reduceIte,qG,qH,qI,gB,l4]
 refine loopI_of (fun k e h'=>∃ y:Nat,k+y=f.slots.length∧e.val 0=.ptr c 0 0∧e.val 5=.ptr h.n 0 0∧e.val 56=sv∧e.val 57=.int .i64 f.slots.length∧e.val 58=.int .i64 y∧h'=h1 ∧
  f.slots.any (slotsBad p.types.length)=(f.slots.drop y).any (slotsBad p.types.length)) f.slots.length ?_ ?_
 ·refine ⟨0,by omega,?_,?_,?_,?_,?_,rfl,by simp⟩<;>simp -implicitDefEqProofs (disch:=first|exact dz _|fail) only [↓qJ,qK,qL,qA,qB,qC,qD,qE,↓reduceIte,qG,qH,qI]<;>rfl
 ·rintro k e h' ⟨y,hky,e0,e5,e56,e57,e58,hh,hA⟩
  subst hh
  simp -implicitDefEqProofs (disch:=first|exact dz _|fail) only [↓qJ,qK,qL,qA,qB,qC,qD,qE,↓reduceIte,qG,qH,qI,e56,e57,e58]
  refine cI_bool (fun he=>?_) (fun he=>?_)
  ·simp only [decide_eq_true_eq] at he
   obtain ⟨a,ha⟩:∃ a,f.slots[y]?=some a:=⟨_,List.getElem?_eq_getElem (by omega)⟩
   obtain ⟨j2,g3,off2,vs2,ro2,y1,y2,y3,y5⟩:=((s4.keep fT).rd ha).ix1 (enc:=fun n=>.int .i64 n) ha .i64
   have hw2:IntKind.i64.wrap ((y:Int)+1)=((y+1:Nat):Int):=wrap64 (by omega) (by omega)
   rw [any_drop ha] at hA
   simp -implicitDefEqProofs (disch:=first|exact dz _|fail) only [↓qJ,qK,qL,qA,qB,qC,qD,qE,↓reduceIte,qG,qH,qI,e0,e5,e56,e57,e58,y1,y2,y5]
   refine AM.gI_bool (fun hf=>?_) (fun hf=>?_)
   ·simp -implicitDefEqProofs (disch:=first|exact dz _|fail) only [↓qJ,qK,qL,qA,qB,qC,qD,qE,↓reduceIte,qG,qH,qI,e0,hf]
    refine callI_of (kind C1 a (ok.slots a (List.mem_of_getElem? ha))) ?_
    rintro r h3 ⟨rfl,rfl⟩
    simp -implicitDefEqProofs (disch:=first|exact dz _|fail) only [↓qJ,qK,qL,qA,qB,qC,qD,qE,↓reduceIte,qG,qH,qI,hf]
    refine cI_bool (fun hd=>?_) (fun hd=>?_)
    ·simp -implicitDefEqProofs (disch:=first|exact dz _|fail) only [↓qJ,qK,qL,qA,qB,qC,qD,qE,↓reduceIte,qG,qH,qI]
     rw [slotsBad,hf,hd,Bool.true_and,Bool.true_or] at hA
     rw [if_pos hA] at hX
     subst hQ
     exact ⟨fT,by rw [hX]⟩
    ·rw [slotsBad,hf,hd,Bool.true_and,Bool.false_or] at hA
     simp -implicitDefEqProofs (disch:=first|exact dz _|fail) only [↓qJ,qK,qL,qA,qB,qC,qD,qE,↓reduceIte,qG,qH,qI,e0,e5,e56,e57,e58,hw2]
     exact ⟨f.slots.length-(y+1),by omega,y+1,by omega,rfl,hA⟩
   ·rw [slotsBad,hf,Bool.false_and,Bool.false_or] at hA
    simp -implicitDefEqProofs (disch:=first|exact dz _|fail) only [↓qJ,qK,qL,qA,qB,qC,qD,qE,↓reduceIte,qG,qH,qI,e0,e5,e56,e57,e58,hw2,hf]
    exact ⟨f.slots.length-(y+1),by omega,y+1,by omega,rfl,hA⟩
  ·simp only [decide_eq_false_iff_not] at he
   rw [List.drop_of_length_le (by omega),List.any_nil] at hA
   rw [if_neg (by simp [hA])] at hX
   simp -implicitDefEqProofs (disch:=first|exact dz _|fail) only [↓qJ,qK,qL,qA,qB,qC,qD,qE,↓reduceIte,qG,qH,qI,e0,e5,gB,l5]
   refine loopI_of (fun k e h2=>∃ y:Nat,k+y=f.results.length∧e.val 0=.ptr c 0 0∧e.val 5=.ptr h.n 0 0∧e.val 72=rv∧e.val 73=.int .i64 f.results.length∧e.val 74=.int .i64 y∧h2=h' ∧
    f.results.any (fun k=>!kindF p.types.length k)=(f.results.drop y).any (fun k=>!kindF p.types.length k)) f.results.length ?_ ?_
   ·refine ⟨0,by omega,?_,?_,?_,?_,?_,rfl,by simp⟩<;>simp -implicitDefEqProofs (disch:=first|exact dz _|fail) only [↓qJ,qK,qL,qA,qB,qC,qD,qE,↓reduceIte,qG,qH,qI,e0,e5]<;>rfl
   ·clear e0 e5 e56 e57 e58 he hky hA
    rintro k e h2 ⟨y,hky,e0,e5,e72,e73,e74,hh,hA⟩
    subst hh
    simp -implicitDefEqProofs (disch:=first|exact dz _|fail) only [↓qJ,qK,qL,qA,qB,qC,qD,qE,↓reduceIte,qG,qH,qI,e72,e73,e74]
    refine cI_bool (fun he=>?_) (fun he=>?_)
    ·simp only [decide_eq_true_eq] at he
     obtain ⟨a,ha⟩:∃ a,f.results[y]?=some a:=⟨_,List.getElem?_eq_getElem (by omega)⟩
     obtain ⟨j2,g3,off2,vs2,ro2,y1,y2,y3,y5⟩:=((s5.keep fT).rd ha).ix1 (enc:=fun n=>.int .i64 n) ha .i64
     have hw2:IntKind.i64.wrap ((y:Int)+1)=((y+1:Nat):Int):=wrap64 (by omega) (by omega)
     rw [any_drop ha] at hA
     simp -implicitDefEqProofs (disch:=first|exact dz _|fail) only [↓qJ,qK,qL,qA,qB,qC,qD,qE,↓reduceIte,qG,qH,qI,e0,e5,e72,e73,e74,y1,y2,y5]
     refine callI_of (kind C1 a (ok.results a (List.mem_of_getElem? ha))) ?_
     rintro r h3 ⟨rfl,rfl⟩
     simp -implicitDefEqProofs (disch:=first|exact dz _|fail) only [↓qJ,qK,qL,qA,qB,qC,qD,qE,↓reduceIte,qG,qH,qI]
     refine cI_bool (fun hd=>?_) (fun hd=>?_)
     ·simp -implicitDefEqProofs (disch:=first|exact dz _|fail) only [↓qJ,qK,qL,qA,qB,qC,qD,qE,↓reduceIte,qG,qH,qI]
      rw [hd,Bool.true_or] at hA
      rw [if_pos hA] at hX
      subst hQ
      exact ⟨fT,by rw [hX]⟩
     ·rw [hd,Bool.false_or] at hA
      simp -implicitDefEqProofs (disch:=first|exact dz _|fail) only [↓qJ,qK,qL,qA,qB,qC,qD,qE,↓reduceIte,qG,qH,qI,e0,e5,e72,e73,e74,hw2]
      exact ⟨f.results.length-(y+1),by omega,y+1,by omega,rfl,hA⟩
    ·simp only [decide_eq_false_iff_not] at he
     rw [List.drop_of_length_le (by omega),List.any_nil] at hA
     rw [if_neg (by simp [hA])] at hX
     simp -implicitDefEqProofs (disch:=first|exact dz _|fail) only [↓qJ,qK,qL,qA,qB,qC,qD,qE,↓reduceIte,qG,qH,qI,e0,e5,gB,l6]
     refine cI_bool (fun hd=>?_) (fun hd=>?_)
     ·simp only [decide_eq_true_eq] at hd
      simp -implicitDefEqProofs (disch:=first|exact dz _|fail) only [↓qJ,qK,qL,qA,qB,qC,qD,qE,↓reduceIte,qG,qH,qI]
      rw [if_pos (by omega)] at hX
      subst hQ
      exact ⟨fT,by rw [hX]⟩
     ·simp only [decide_eq_false_iff_not] at hd
      rw [if_neg (by omega)] at hX
      obtain ⟨z,hz⟩:∃ z,f.code[f.code.length-1]?=some z:=⟨_,List.getElem?_eq_getElem (by omega)⟩
      have hz2:f.code.getLast?=some z:=by rw [List.getLast?_eq_getElem?];exact hz
      obtain ⟨j,g2,off,vs,ro,row,x1,x2,x3,x4,x5,x6,q7,lz,rfl,xl⟩:=(s6.mono (h':=h2) (R':=InsR h) (fun _ _ q=>q) fT.n (fun j hj=>fT.get j hj (by simp))).ix hz .i64
      have hw:IntKind.i64.wrap ((f.code.length:Int)-1)=((f.code.length-1:Nat):Int):=(wrap64 (by omega) (by omega)).trans (by omega)
      have p0:vs[off]?=some (.int .i64 z.op):=by
       have:((vs.drop off).take 6)[0]?=some (.int .i64 z.op):=by rw [x5];rfl
       rw [List.getElem?_take,if_pos (by omega),List.getElem?_drop] at this
       exact this
      rw [lastF,hz2] at hX
      simp only [Option.map_some,Option.getD_some] at hX
      simp -implicitDefEqProofs (disch:=first|exact dz _|fail) only [↓qJ,qK,qL,qA,qB,qC,qD,qE,↓reduceIte,qG,qH,qI,e0,e5,gB,l6,hw,x1,x2,p0]
      refine cI_or (t:=96) (s:=95) (x:=z.op) (by decide) [(98,24),(99,52),(100,39)] (by simp -implicitDefEqProofs (disch:=first|exact dz _|fail) only [↓qJ,qK,qL,qA,qB,qC,qD,qE,↓reduceIte,qG,qH,qI,e0]) (by simp -implicitDefEqProofs (disch:=first|exact dz _|fail) only [↓qJ,qK,qL,qA,qB,qC,qD,qE,↓reduceIte,qG,qH,qI,e0]) (by decide) ?_
      intro e' ht hk
      have e0':Env.val e' 0=.ptr c 0 0:=(hk 0 (by decide) (by decide)).trans (by simp -implicitDefEqProofs (disch:=first|exact dz _|fail) only [↓qJ,qK,qL,qA,qB,qC,qD,qE,↓reduceIte,qG,qH,qI,e0])
      clear hk
      try clear e0
      have e0:=e0'
      clear e0'
      simp -implicitDefEqProofs (disch:=first|exact dz _|fail) only [↓qJ,qK,qL,qA,qB,qC,qD,qE,↓reduceIte,qG,qH,qI,ht]
      refine cI_bool (fun hf=>?_) (fun hf=>?_)
      ·have m:orB z.op [36,24,52,39]=true:=hf
       simp -implicitDefEqProofs (disch:=first|exact dz _|fail) only [↓qJ,qK,qL,qA,qB,qC,qD,qE,↓reduceIte,qG,qH,qI]
       rw [if_pos m] at hX
       subst hQ
       exact ⟨fT,by rw [hX]⟩
      ·have m:orB z.op [36,24,52,39]=false:=hf
       simp -implicitDefEqProofs (disch:=first|exact dz _|fail) only [↓qJ,qK,qL,qA,qB,qC,qD,qE,↓reduceIte,qG,qH,qI]
       rw [if_neg (by simp [m])] at hX
       subst hQ
       exact ⟨fT,by rw [hX]⟩
end Go.Proofs.Ytnbnpjhlflcjeaa.Id.V