/-
 What the functions of this seat do,on the machine: lemmas for the laws.
-/
import Derived.Test.YtnbnpjhlflcjeaaFX6
import Derived.Test.YtnbnpjhlflcjeaaFX8
set_option linter.unusedSimpArgs false
set_option linter.unusedVariables false
set_option maxRecDepth 100000
attribute [local irreducible] Go.AM.wp Go.AM.wpIs Go.AM.wpTr Go.AM.opI Go.AM.gI Go.AM.cI Go.AM.trI Go.AM.callI Go.AM.fnI Go.AM.yldI Go.AM.rangeI Go.AM.rangeC Go.AM.YldP Go.AM.asgQ Go.AM.roundQ Go.AM.rangeQ Go.AM.trG Go.AM.trOp Go.AM.trCall Go.AM.seqC Go.AM.loopI
namespace Go.Proofs.Ytnbnpjhlflcjeaa.Id.V
open Go Go.AM Go.Proofs.Ytnbnpjhlflcjeaa.AmGF
open Nat renaming reduceAdd → qA,reduceLeDiff → qB,reduceEqDiff → qC,reduceLT → qE
open Int renaming reduceToNat → qD,reduceEq → qG,reduceLT → qH,reduceLE → qI
def headsF (nt:Nat):List PFunc→Nat→Int×Int
 | [],_=>(0,0)
 | g::l,n=>if headF nt g (decide (n=0))≠0 then (headF nt g (decide (n=0)),n) else headsF nt l (n+1)
def codesF (p:PProg):List PFunc→Nat→Int×Int×Int
 | [],_=>(0,0,0)
 | g::l,n=>if (firstE (insF p g) g.code 0).1≠0 then ((firstE (insF p g) g.code 0).1,n,(firstE (insF p g) g.code 0).2) else codesF p l (n+1)
def checkF (p:PProg):Int×Int×Int :=
 if (typesF p).1≠0 then ((typesF p).1,-1,(typesF p).2)
 else if (headsF p.types.length p.funcs 0).1≠0 then ((headsF p.types.length p.funcs 0).1,(headsF p.types.length p.funcs 0).2,0)
 else codesF p p.funcs 0
theorem headsF_drop {nt:Nat} {l:List PFunc} {i:Nat} {a:PFunc} (h:l[i]?=some a):headsF nt (l.drop i) i=if headF nt a (decide (i=0))≠0 then (headF nt a (decide (i=0)),(i:Int)) else headsF nt (l.drop (i+1)) (i+1):=by
 obtain ⟨hi,rfl⟩:=List.getElem?_eq_some_iff.1 h
 rw [List.drop_eq_getElem_cons hi];rfl
theorem codesF_drop {p:PProg} {l:List PFunc} {i:Nat} {a:PFunc} (h:l[i]?=some a):codesF p (l.drop i) i=if (firstE (insF p a) a.code 0).1≠0 then ((firstE (insF p a) a.code 0).1,(i:Int),(firstE (insF p a) a.code 0).2) else codesF p (l.drop (i+1)) (i+1):=by
 obtain ⟨hi,rfl⟩:=List.getElem?_eq_some_iff.1 h
 rw [List.drop_eq_getElem_cons hi];rfl
theorem firstE_ok {α:Type} {f:α→Int}:∀ {l:List α} {n:Nat},(firstE f l n).1=0→∀ a,a∈l→f a=0
 | [],_,_,a,h=>(nomatch h)
 | b::l,n,e,a,h=>by
  unfold firstE at e
  by_cases hb:f b=0
  ·rw [if_neg (by simp [hb])] at e
   rcases List.mem_cons.1 h with rfl | h
   ·exact hb
   ·exact firstE_ok e a h
  ·rw [if_pos hb] at e;exact absurd e hb
theorem headsF_ok {nt:Nat}:∀ {l:List PFunc} {n:Nat},(headsF nt l n).1=0→∀ a,a∈l→∃ b,headF nt a b=0
 | [],_,_,a,h=>(nomatch h)
 | b::l,n,e,a,h=>by
  unfold headsF at e
  by_cases hb:headF nt b (decide (n=0))=0
  ·rw [if_neg (by simp [hb])] at e
   rcases List.mem_cons.1 h with rfl | h
   ·exact ⟨_,hb⟩
   ·exact headsF_ok e a h
  ·rw [if_pos hb] at e;exact absurd e hb
theorem typesF_ok {p:PProg} (h:(typesF p).1=0):p.types.length≤32∧p.globals.length≤32∧p.funcs.length≤32∧1≤p.funcs.length∧Ht p∧(∀ t,t∈p.types→t.2.length≤16):=by
 unfold typesF at h
 split at h
 ·cases h
 ·rename_i hc
  split at h
  ·rename_i hd;exact absurd h hd
  ·rename_i hd
   have hd':(firstE (tyF p.types.length) p.types 0).1=0:=by simpa using hd
   have ht:∀ t,t∈p.types→1≤t.2.length∧t.2.length≤16:=fun t ht=>by
    have:=firstE_ok hd' t ht
    unfold tyF at this
    split at this
    ·cases this
    ·omega
   exact ⟨by omega,by omega,by omega,by omega,fun t h=>by have:=(ht t h).1;intro e;rw [e] at this;simp at this,fun t h=>(ht t h).2⟩
theorem headF_ok {nt:Nat} {f:PFunc} {b:Bool} (h:headF nt f b=0):f.slots.length≤32∧f.results.length≤32∧f.code.length≤256∧0≤f.params∧f.params≤f.slots.length∧(∀ k,k∈f.slots→k=2∨kindF nt k=true)∧f.code.length≠0:=by
 unfold headF at h
 split at h
 ·cases h
 ·rename_i h1
  split at h
  ·cases h
  ·split at h
   ·cases h
   ·rename_i h3
    split at h
    ·cases h
    ·split at h
     ·cases h
     ·rename_i h5
      refine ⟨by omega,by omega,by omega,by omega,by omega,fun k hk=>?_,h5⟩
      have:=List.any_eq_false.1 (by simpa using h3:f.slots.any (slotsBad nt)=false) k hk
      unfold slotsBad at this
      simp only [Bool.and_eq_true,Bool.not_eq_true',decide_eq_false_iff_not,not_and,Bool.not_eq_false] at this
      by_cases hq:k=2
      ·exact .inl hq
      ·exact .inr (this hq)
theorem mkCk {h h':AHeap} {c:Nat} {p:PProg} {f:PFunc} {i:PIns} {tv gv fv sv rv cv:AVal} {at_:Int} {lv:AVal} (fr:HFrame h h' [] []) (g:h'.get c=.cells 0 false [tv,gv,fv,.int .i64 f.params,sv,rv,cv,.int .i64 at_,.int .i64 i.op,.int .i64 i.a,.int .i64 i.b,.int .i64 i.c,.int .u64 i.imm,lv]) (lt:c<h'.n)
  (RT:SlR h 2 (TypeR h) tv p.types) (RG:SlIn h 1 encK gv p.globals) (RF:SlR h 4 (FuncR h) fv p.funcs) (F1:SlIn h 1 encK sv f.slots) (F2:SlIn h 1 encK rv f.results) (F3:SlR h 6 (InsR h) cv f.code) (hi:i.imm≤18446744073709551615) (I1:SlIn h 1 encK lv i.list):CkR h' c p f i:=by
 have hn:=fr.n
 have k:∀ j,j<h.n→h'.get j=h.get j:=fun j hj=>fr.get j hj (by simp)
 exact ⟨tv,gv,fv,sv,rv,cv,at_,lv,g,lt,RT.mono (fun _ _ q=>TypeR.mono hn k q) hn k,RG.mono hn k,RF.mono (fun _ _ q=>FuncR.mono hn k q) hn k,F1.mono hn k,F2.mono hn k,F3.mono (fun _ _ q=>InsR.mono hn k q) hn k,hi,I1.mono hn k⟩
set_option maxHeartbeats 4000000 in
theorem check {h:AHeap} {p:PProg} {row:List AVal} (R:ProgR h p row) (ok:p.Ok) :
  CallP AP 34 [.agg row] h fun r h'=>HFrame h h' [] []∧r=.agg [.int .i64 (checkF p).1,.int .i64 (checkF p).2.1,.int .i64 (checkF p).2.2]:=by
 obtain ⟨tv,gv,fv,rfl,RT,RG,RF⟩:=R
 refine callP (rfl:Tr.get AP 34=some A34) ?_
 generalize hQ:(fun (r:AVal) (h':AHeap)=>_)=Q
 have c1:=SlR.cellv RT
 have c2:=SlIn.cellv RG
 have c3:=SlR.cellv RF
 have l3:=RF.len
 simp -implicitDefEqProofs (disch:=first|exact dz _|fail) only [↓qJ,qK,qL,qA,qB,qC,qD,qE,↓reduceIte,qG,qH,qI,c1,c2,c3]
 have f0:=(((HFrame.refl (h:=h) (F:=[]) (by simp)).pushTmp (.cells 0 false [tv,gv,fv])).pushTmp (.cells 0 false [.int .i64 0,.int .i64 0,.int .i64 0])).pushTmp (.cells 0 false [tv,gv,fv,.int .i64 0,.nils,.nils,.nils,.int .i64 0,.int .i64 0,.int .i64 0,.int .i64 0,.int .i64 0,.int .u64 0,.nils])
 obtain ⟨hA,hhA⟩:∃ hA,hA=((h.push (.cells 0 false [tv,gv,fv])).push (.cells 0 false [.int .i64 0,.int .i64 0,.int .i64 0])).push (.cells 0 false [tv,gv,fv,.int .i64 0,.nils,.nils,.nils,.int .i64 0,.int .i64 0,.int .i64 0,.int .i64 0,.int .i64 0,.int .u64 0,.nils]):=⟨_,rfl⟩
 have nA:hA.n=h.n+3:=by rw [hhA];rfl
 have gP:hA.get h.n=.cells 0 false [tv,gv,fv]:=by rw [hhA,AHeap.get_push_ne _ _ (by simp;omega),AHeap.get_push_ne _ _ (by simp)];exact AHeap.get_push_same _ _
 have gR:hA.get (h.n+1)=.cells 0 false [.int .i64 0,.int .i64 0,.int .i64 0]:=by rw [hhA,AHeap.get_push_ne _ _ (by simp)];exact AHeap.get_push_same (h.push (.cells 0 false [tv,gv,fv])) _
 have gC:hA.get (h.n+2)=.cells 0 false [tv,gv,fv,.int .i64 0,.nils,.nils,.nils,.int .i64 0,.int .i64 0,.int .i64 0,.int .i64 0,.int .i64 0,.int .u64 0,.nils]:=by rw [hhA];exact AHeap.get_push_same ((h.push (.cells 0 false [tv,gv,fv])).push (.cells 0 false [.int .i64 0,.int .i64 0,.int .i64 0])) _
 have hAe:=hhA
 rw [←hhA] at f0 ⊢
 clear hhA hAe
 have C0:CkR hA (h.n+2) p ⟨0,[],[],[]⟩ ⟨0,0,0,0,0,[]⟩:=mkCk f0 gC (by omega) RT RG RF (.inl (.inl ⟨rfl,rfl⟩)) (.inl (.inl ⟨rfl,rfl⟩)) (.inl ⟨rfl,rfl⟩) (by simp) (.inl (.inl ⟨rfl,rfl⟩))
 obtain ⟨X,hX⟩:∃ X,X=checkF p:=⟨_,rfl⟩
 rw [←hX] at hQ
 rw [checkF] at hX
 refine callI_of (types C0 ok) ?_
 rintro r h1 ⟨f1,rfl⟩
 have gP1:=(f1.get h.n (by omega) (by simp)).trans gP
 have gR1:=(f1.get (h.n+1) (by omega) (by simp)).trans gR
 have gC1:=(f1.get (h.n+2) (by omega) (by simp)).trans gC
 have n1:h.n+3≤h1.n:=by have:=f1.n;omega
 have f01:=f0.trans f1
 simp -implicitDefEqProofs (disch:=first|exact dz _|fail) only [↓qJ,qK,qL,qA,qB,qC,qD,qE,↓reduceIte,qG,qH,qI]
 refine cI_bool (fun hb=>?_) (fun hb=>?_)
 ·have hb':(typesF p).1≠0:=by simpa using hb
  rw [if_pos hb'] at hX
  simp -implicitDefEqProofs (disch:=first|exact dz _|fail) only [↓qJ,qK,qL,qA,qB,qC,qD,qE,↓reduceIte,qG,qH,qI,gR1]
  subst hQ
  exact ⟨f01.setTmp (by omega) _,by rw [hX]⟩
 have hb':¬ (typesF p).1≠0:=by simpa using hb
 rw [if_neg hb'] at hX
 obtain ⟨t1,t2,t3,t4,t5,t6⟩:=typesF_ok (by simpa using hb')
 simp -implicitDefEqProofs (disch:=first|exact dz _|fail) only [↓qJ,qK,qL,qA,qB,qC,qD,qE,↓reduceIte,qG,qH,qI,gP1,l3]
 refine loopI_of (fun k e h'=>∃ (x:Nat) (f:PFunc) (sv rv cv:AVal),k+x=p.funcs.length∧e.val 1=.ptr h.n 0 0∧e.val 2=.ptr (h.n+1) 0 0∧e.val 3=.ptr (h.n+2) 0 0∧e.val 28=fv∧e.val 29=.int .i64 p.funcs.length∧e.val 30=.int .i64 x∧HFrame h h' [] []∧h.n+3≤h'.n ∧
  h'.get h.n=.cells 0 false [tv,gv,fv]∧h'.get (h.n+1)=.cells 0 false [.int .i64 0,.int .i64 0,.int .i64 0]∧h'.get (h.n+2)=.cells 0 false [tv,gv,fv,.int .i64 f.params,sv,rv,cv,.int .i64 0,.int .i64 0,.int .i64 0,.int .i64 0,.int .i64 0,.int .u64 0,.nils] ∧
  headsF p.types.length p.funcs 0=headsF p.types.length (p.funcs.drop x) x) p.funcs.length ?_ ?_
 ·refine ⟨0,⟨0,[],[],[]⟩,.nils,.nils,.nils,by omega,?_,?_,?_,?_,?_,?_,f01,n1,gP1,gR1,gC1,by simp⟩<;>simp -implicitDefEqProofs (disch:=first|exact dz _|fail) only [↓qJ,qK,qL,qA,qB,qC,qD,qE,↓reduceIte,qG,qH,qI]<;>rfl
 ·rintro k e h' ⟨x,fx,sx,rx,cx,hk,e1,e2,e3,e28,e29,e30,fr,hn,gP,gR,gC,hF⟩
  simp -implicitDefEqProofs (disch:=first|exact dz _|fail) only [↓qJ,qK,qL,qA,qB,qC,qD,qE,↓reduceIte,qG,qH,qI,e28,e29,e30]
  refine cI_bool (fun hc=>?_) (fun hc=>?_)
  ·simp only [decide_eq_true_eq] at hc
   obtain ⟨f,hf⟩:∃ f,p.funcs[x]?=some f:=⟨_,List.getElem?_eq_getElem (by omega)⟩
   obtain ⟨j,g2,off,vs,ro,row,x1,x2,x3,x4,x5,x6,sv,rv,cv,rfl,ys,yr,yc⟩:=(RF.mono (h':=h') (R':=FuncR h) (fun _ _ q=>q) fr.n (fun j hj=>fr.get j hj (by simp))).ix hf .i64
   have k1:=SlIn.cellv ys
   have k2:=SlIn.cellv yr
   have k3:=SlR.cellv yc
   have hw:IntKind.i64.wrap ((x:Int)+1)=((x+1:Nat):Int):=wrap64 (by omega) (by omega)
   rw [headsF_drop hf] at hF
   simp -implicitDefEqProofs (disch:=first|exact dz _|fail) only [↓qJ,qK,qL,qA,qB,qC,qD,qE,↓reduceIte,qG,qH,qI,e1,e2,e3,e28,e29,e30,x1,x2,x5,k1,k2,k3,gC]
   have f2:=((fr.pushTmp (.cells 0 false [.int .i64 0,.nils,.nils,.nils])).setTmp (i:=h'.n) fr.n (.cells 0 false [.int .i64 f.params,sv,rv,cv])).setTmp (i:=h.n+2) (by omega) (.cells 0 false [tv,gv,fv,.int .i64 f.params,sv,rv,cv,.int .i64 0,.int .i64 0,.int .i64 0,.int .i64 0,.int .i64 0,.int .u64 0,.nils])
   obtain ⟨hB,hhB⟩:∃ hB,hB=((h'.push (.cells 0 false [.int .i64 0,.nils,.nils,.nils])).set h'.n (.cells 0 false [.int .i64 f.params,sv,rv,cv])).set (h.n+2) (.cells 0 false [tv,gv,fv,.int .i64 f.params,sv,rv,cv,.int .i64 0,.int .i64 0,.int .i64 0,.int .i64 0,.int .i64 0,.int .u64 0,.nils]):=⟨_,rfl⟩
   have nB:hB.n=h'.n+1:=by rw [hhB];rfl
   have gP2:hB.get h.n=.cells 0 false [tv,gv,fv]:=by rw [hhB,AHeap.get_set_ne _ _ (by omega),AHeap.get_set_ne _ _ (by omega),AHeap.get_push_ne _ _ (by omega)];exact gP
   have gR2:hB.get (h.n+1)=.cells 0 false [.int .i64 0,.int .i64 0,.int .i64 0]:=by rw [hhB,AHeap.get_set_ne _ _ (by omega),AHeap.get_set_ne _ _ (by omega),AHeap.get_push_ne _ _ (by omega)];exact gR
   have gC2:hB.get (h.n+2)=.cells 0 false [tv,gv,fv,.int .i64 f.params,sv,rv,cv,.int .i64 0,.int .i64 0,.int .i64 0,.int .i64 0,.int .i64 0,.int .u64 0,.nils]:=by rw [hhB];exact AHeap.get_set_same _ _ _
   rw [←hhB] at f2 ⊢
   clear hhB
   have C2:CkR hB (h.n+2) p f ⟨0,0,0,0,0,[]⟩:=mkCk f2 gC2 (by omega) RT RG RF ys yr yc (by simp) (.inl (.inl ⟨rfl,rfl⟩))
   have hdz:decide ((x:Int)=0)=decide (x=0):=decide_eq_decide.2 (by omega)
   rw [hdz]
   refine callI_of (head C2 (ok.funcs f (List.mem_of_getElem? hf)) (decide (x=0))) ?_
   rintro r h3 ⟨f3,rfl⟩
   have gP3:=(f3.get h.n (by omega) (by simp)).trans gP2
   have gR3:=(f3.get (h.n+1) (by omega) (by simp)).trans gR2
   have gC3:=(f3.get (h.n+2) (by omega) (by simp)).trans gC2
   have n3:h.n+3≤h3.n:=by have:=f3.n;omega
   have f23:=f2.trans f3
   simp -implicitDefEqProofs (disch:=first|exact dz _|fail) only [↓qJ,qK,qL,qA,qB,qC,qD,qE,↓reduceIte,qG,qH,qI]
   refine cI_bool (fun hd=>?_) (fun hd=>?_)
   ·have hd':headF p.types.length f (decide (x=0))≠0:=by simpa using hd
    rw [if_pos hd'] at hF
    rw [hF,if_pos hd'] at hX
    simp -implicitDefEqProofs (disch:=first|exact dz _|fail) only [↓qJ,qK,qL,qA,qB,qC,qD,qE,↓reduceIte,qG,qH,qI,e2,gR3]
    subst hQ
    exact ⟨f23.setTmp (by omega) _,by rw [hX]⟩
   ·have hd':¬ headF p.types.length f (decide (x=0))≠0:=by simpa using hd
    rw [if_neg hd'] at hF
    simp -implicitDefEqProofs (disch:=first|exact dz _|fail) only [↓qJ,qK,qL,qA,qB,qC,qD,qE,↓reduceIte,qG,qH,qI,e1,e2,e3,e28,e29,e30,hw]
    exact ⟨p.funcs.length-(x+1),by omega,x+1,f,sv,rv,cv,by omega,rfl,f23,n3,gP3,gR3,gC3,hF⟩
  ·simp only [decide_eq_false_iff_not] at hc
   rw [List.drop_of_length_le (by omega)] at hF
   have hall:(headsF p.types.length p.funcs 0).1=0:=by rw [hF];rfl
   have hHp:Hp p:=fun g hg=>by
    obtain ⟨b,hb⟩:=headsF_ok hall g hg
    obtain ⟨q1,q2,q3,q4,q5,_⟩:=headF_ok hb
    exact ⟨q4,q5,q1,q2⟩
   have hHs:∀ g,g∈p.funcs→Hs p g.slots∧g.code.length≤256:=fun g hg=>by
    obtain ⟨b,hb⟩:=headsF_ok hall g hg
    obtain ⟨q1,q2,q3,q4,q5,q6,_⟩:=headF_ok hb
    exact ⟨q6,q3⟩
   rw [hF,if_neg (by simp [headsF])] at hX
   clear hF hall
   simp -implicitDefEqProofs (disch:=first|exact dz _|fail) only [↓qJ,qK,qL,qA,qB,qC,qD,qE,↓reduceIte,qG,qH,qI,e1,gP,l3]
   refine loopI_of (fun k e h'=>∃ (x:Nat) (a0 a1 a2 a3 a4 a5 a6 a7 a8 a9 a10:AVal),k+x=p.funcs.length∧e.val 1=.ptr h.n 0 0∧e.val 2=.ptr (h.n+1) 0 0∧e.val 3=.ptr (h.n+2) 0 0∧e.val 50=fv∧e.val 51=.int .i64 p.funcs.length∧e.val 52=.int .i64 x∧HFrame h h' [] []∧h.n+3≤h'.n ∧
    h'.get (h.n+1)=.cells 0 false [.int .i64 0,.int .i64 0,.int .i64 0]∧h'.get (h.n+2)=.cells 0 false [tv,gv,fv,a0,a1,a2,a3,a4,a5,a6,a7,a8,a9,a10] ∧
    codesF p p.funcs 0=codesF p (p.funcs.drop x) x) p.funcs.length ?_ ?_
   ·refine ⟨0,_,_,_,_,_,_,_,_,_,_,_,by omega,?_,?_,?_,?_,?_,?_,fr,hn,gR,gC,by simp⟩<;>simp -implicitDefEqProofs (disch:=first|exact dz _|fail) only [↓qJ,qK,qL,qA,qB,qC,qD,qE,↓reduceIte,qG,qH,qI,e1,e2,e3]<;>rfl
   ·clear e1 e2 e3 e28 e29 e30 fr hn gP gR gC hk hc
    rintro k e h' ⟨x,a0,a1,a2,a3,a4,a5,a6,a7,a8,a9,a10,hk,e1,e2,e3,e50,e51,e52,fr,hn,gR,gC,hF⟩
    simp -implicitDefEqProofs (disch:=first|exact dz _|fail) only [↓qJ,qK,qL,qA,qB,qC,qD,qE,↓reduceIte,qG,qH,qI,e50,e51,e52]
    refine cI_bool (fun hc=>?_) (fun hc=>?_)
    ·simp only [decide_eq_true_eq] at hc
     obtain ⟨f,hf⟩:∃ f,p.funcs[x]?=some f:=⟨_,List.getElem?_eq_getElem (by omega)⟩
     obtain ⟨j,g2,off,vs,ro,row,x1,x2,x3,x4,x5,x6,sv,rv,cv,rfl,ys,yr,yc⟩:=(RF.mono (h':=h') (R':=FuncR h) (fun _ _ q=>q) fr.n (fun j hj=>fr.get j hj (by simp))).ix hf .i64
     have k1:=SlIn.cellv ys
     have k2:=SlIn.cellv yr
     have k3:=SlR.cellv yc
     have lc:=yc.len
     have hw:IntKind.i64.wrap ((x:Int)+1)=((x+1:Nat):Int):=wrap64 (by omega) (by omega)
     rw [codesF_drop hf] at hF
     simp -implicitDefEqProofs (disch:=first|exact dz _|fail) only [↓qJ,qK,qL,qA,qB,qC,qD,qE,↓reduceIte,qG,qH,qI,e1,e2,e3,e50,e51,e52,x1,x2,x5,k1,k2,k3,gC,lc]
     have f2:=((fr.pushTmp (.cells 0 false [.int .i64 0,.nils,.nils,.nils])).setTmp (i:=h'.n) fr.n (.cells 0 false [.int .i64 f.params,sv,rv,cv])).setTmp (i:=h.n+2) (by omega) (.cells 0 false [tv,gv,fv,.int .i64 f.params,sv,rv,cv,a4,a5,a6,a7,a8,a9,a10])
     obtain ⟨hB,hhB⟩:∃ hB,hB=((h'.push (.cells 0 false [.int .i64 0,.nils,.nils,.nils])).set h'.n (.cells 0 false [.int .i64 f.params,sv,rv,cv])).set (h.n+2) (.cells 0 false [tv,gv,fv,.int .i64 f.params,sv,rv,cv,a4,a5,a6,a7,a8,a9,a10]):=⟨_,rfl⟩
     have nB:hB.n=h'.n+1:=by rw [hhB];rfl
     have gR2:hB.get (h.n+1)=.cells 0 false [.int .i64 0,.int .i64 0,.int .i64 0]:=by rw [hhB,AHeap.get_set_ne _ _ (by omega),AHeap.get_set_ne _ _ (by omega),AHeap.get_push_ne _ _ (by omega)];exact gR
     have gC2:hB.get (h.n+2)=.cells 0 false [tv,gv,fv,.int .i64 f.params,sv,rv,cv,a4,a5,a6,a7,a8,a9,a10]:=by rw [hhB];exact AHeap.get_set_same _ _ _
     rw [←hhB] at f2 ⊢
     clear hhB
     obtain ⟨hs1,hs2⟩:=hHs f (List.mem_of_getElem? hf)
     refine loopI_of (fun k e h2=>∃ (y:Nat) (b4 b5 b6 b7 b8 b9 b10:AVal),k+y=f.code.length∧e.val 1=.ptr h.n 0 0∧e.val 2=.ptr (h.n+1) 0 0∧e.val 3=.ptr (h.n+2) 0 0∧e.val 9=.int .i64 x∧e.val 50=fv∧e.val 51=.int .i64 p.funcs.length∧e.val 52=.int .i64 x∧e.val 62=cv∧e.val 63=.int .i64 f.code.length∧e.val 64=.int .i64 y∧HFrame h h2 [] []∧h.n+3≤h2.n ∧
      h2.get (h.n+1)=.cells 0 false [.int .i64 0,.int .i64 0,.int .i64 0]∧h2.get (h.n+2)=.cells 0 false [tv,gv,fv,.int .i64 f.params,sv,rv,cv,b4,b5,b6,b7,b8,b9,b10] ∧
      firstE (insF p f) f.code 0=firstE (insF p f) (f.code.drop y) y) f.code.length ?_ ?_
     ·refine ⟨0,_,_,_,_,_,_,_,by omega,?_,?_,?_,?_,?_,?_,?_,?_,?_,?_,f2,by omega,gR2,gC2,by simp⟩<;>simp -implicitDefEqProofs (disch:=first|exact dz _|fail) only [↓qJ,qK,qL,qA,qB,qC,qD,qE,↓reduceIte,qG,qH,qI,e1,e2,e3,e50,e51,e52]<;>rfl
     ·clear e1 e2 e3 e50 e51 e52 f2 nB gR2 gC2 gR gC
      rintro k2 e h2 ⟨y,b4,b5,b6,b7,b8,b9,b10,hky,e1,e2,e3,e9,e50,e51,e52,e62,e63,e64,f2,n2,gR,gC,hE⟩
      simp -implicitDefEqProofs (disch:=first|exact dz _|fail) only [↓qJ,qK,qL,qA,qB,qC,qD,qE,↓reduceIte,qG,qH,qI,e62,e63,e64]
      refine cI_bool (fun hd=>?_) (fun hd=>?_)
      ·simp only [decide_eq_true_eq] at hd
       obtain ⟨z,hz⟩:∃ z,f.code[y]?=some z:=⟨_,List.getElem?_eq_getElem (by omega)⟩
       obtain ⟨j,g2,off,vs,ro,row,x1,x2,x3,x4,x5,x6,q7,lz,rfl,xl⟩:=(yc.mono (h':=h2) (R':=InsR h) (fun _ _ q=>q) f2.n (fun j hj=>f2.get j hj (by simp))).ix hz .i64
       have k4:=SlIn.cellv xl
       have kb:=SlIn.beqv xl
       have hw2:IntKind.i64.wrap ((y:Int)+1)=((y+1:Nat):Int):=wrap64 (by omega) (by omega)
       rw [firstE_drop hz] at hE
       simp -implicitDefEqProofs (disch:=first|exact dz _|fail) only [↓qJ,qK,qL,qA,qB,qC,qD,qE,↓reduceIte,qG,qH,qI,e1,e2,e3,e9,e50,e51,e52,e62,e63,e64,x1,x2,x5,k4,kb,gC]
       have f3:=(((f2.pushTmp (.cells 0 false [.int .i64 0,.int .i64 0,.int .i64 0,.int .i64 0,.int .u64 0,.nils])).setTmp (i:=h2.n) f2.n (.cells 0 false [.int .i64 z.op,.int .i64 z.a,.int .i64 z.b,.int .i64 z.c,.int .u64 z.imm,lz])).setTmp (i:=h.n+2) (by omega) (.cells 0 false [tv,gv,fv,.int .i64 f.params,sv,rv,cv,.int .i64 y,b5,b6,b7,b8,b9,b10])).setTmp (i:=h.n+2) (by omega) (.cells 0 false [tv,gv,fv,.int .i64 f.params,sv,rv,cv,.int .i64 y,.int .i64 z.op,.int .i64 z.a,.int .i64 z.b,.int .i64 z.c,.int .u64 z.imm,lz])
       obtain ⟨hB,hhB⟩:∃ hB,hB=(((h2.push (.cells 0 false [.int .i64 0,.int .i64 0,.int .i64 0,.int .i64 0,.int .u64 0,.nils])).set h2.n (.cells 0 false [.int .i64 z.op,.int .i64 z.a,.int .i64 z.b,.int .i64 z.c,.int .u64 z.imm,lz])).set (h.n+2) (.cells 0 false [tv,gv,fv,.int .i64 f.params,sv,rv,cv,.int .i64 y,b5,b6,b7,b8,b9,b10])).set (h.n+2) (.cells 0 false [tv,gv,fv,.int .i64 f.params,sv,rv,cv,.int .i64 y,.int .i64 z.op,.int .i64 z.a,.int .i64 z.b,.int .i64 z.c,.int .u64 z.imm,lz]):=⟨_,rfl⟩
       have nB:hB.n=h2.n+1:=by rw [hhB];rfl
       have gR2:hB.get (h.n+1)=.cells 0 false [.int .i64 0,.int .i64 0,.int .i64 0]:=by rw [hhB,AHeap.get_set_ne _ _ (by omega),AHeap.get_set_ne _ _ (by omega),AHeap.get_set_ne _ _ (by omega),AHeap.get_push_ne _ _ (by omega)];exact gR
       have gC2:hB.get (h.n+2)=.cells 0 false [tv,gv,fv,.int .i64 f.params,sv,rv,cv,.int .i64 y,.int .i64 z.op,.int .i64 z.a,.int .i64 z.b,.int .i64 z.c,.int .u64 z.imm,lz]:=by rw [hhB];exact AHeap.get_set_same _ _ _
       rw [←hhB] at f3 ⊢
       clear hhB
       have C3:CkR hB (h.n+2) p f z:=mkCk f3 gC2 (by omega) RT RG RF ys yr yc q7 xl
       refine callI_of (one C3 hs1 t5 t1 hHp) ?_
       rintro r h3 ⟨f34,rfl⟩
       have gR3:=(f34.get (h.n+1) (by omega) (by simp)).trans gR2
       have gC3:=(f34.get (h.n+2) (by omega) (by simp)).trans gC2
       have n3:h.n+3≤h3.n:=by have:=f34.n;omega
       have f4:=f3.trans f34
       simp -implicitDefEqProofs (disch:=first|exact dz _|fail) only [↓qJ,qK,qL,qA,qB,qC,qD,qE,↓reduceIte,qG,qH,qI]
       refine cI_bool (fun hg=>?_) (fun hg=>?_)
       ·have hg':insF p f z≠0:=by simpa using hg
        rw [if_pos hg'] at hE
        rw [hE,if_pos hg'] at hF
        rw [hF] at hX
        simp -implicitDefEqProofs (disch:=first|exact dz _|fail) only [↓qJ,qK,qL,qA,qB,qC,qD,qE,↓reduceIte,qG,qH,qI,e2,e9,gR3]
        subst hQ
        exact ⟨f4.setTmp (by omega) _,by rw [hX]⟩
       ·have hg':¬ insF p f z≠0:=by simpa using hg
        rw [if_neg hg'] at hE
        simp -implicitDefEqProofs (disch:=first|exact dz _|fail) only [↓qJ,qK,qL,qA,qB,qC,qD,qE,↓reduceIte,qG,qH,qI,e1,e2,e3,e9,e50,e51,e52,e62,e63,e64,hw2]
        exact ⟨f.code.length-(y+1),by omega,y+1,_,_,_,_,_,_,_,by omega,rfl,f4,n3,gR3,gC3,hE⟩
      ·simp only [decide_eq_false_iff_not] at hd
       rw [List.drop_of_length_le (by omega)] at hE
       rw [hE,if_neg (by simp [firstE])] at hF
       simp -implicitDefEqProofs (disch:=first|exact dz _|fail) only [↓qJ,qK,qL,qA,qB,qC,qD,qE,↓reduceIte,qG,qH,qI,e1,e2,e3,e50,e51,e52,hw]
       exact ⟨p.funcs.length-(x+1),by omega,x+1,_,_,_,_,_,_,_,_,_,_,_,by omega,rfl,f2,n2,gR,gC,hF⟩
    ·simp only [decide_eq_false_iff_not] at hc
     rw [List.drop_of_length_le (by omega)] at hF
     rw [hF] at hX
     simp -implicitDefEqProofs (disch:=first|exact dz _|fail) only [↓qJ,qK,qL,qA,qB,qC,qD,qE,↓reduceIte,qG,qH,qI,e2,gR]
     subst hQ
     exact ⟨fr.setTmp (by omega) _,by rw [hX];rfl⟩
end Go.Proofs.Ytnbnpjhlflcjeaa.Id.V
namespace Go.Proofs.Ytnbnpjhlflcjeaa.Id
open Go Go.AM Go.Proofs.Ytnbnpjhlflcjeaa.AmGF
open Nat renaming reduceAdd → qA,reduceLeDiff → qB,reduceEqDiff → qC,reduceLT → qE
open Int renaming reduceToNat → qD,reduceEq → qG,reduceLT → qH,reduceLE → qI
def SlX (h:AHeap) (esz:Nat) {α:Type} (enc:α→List AVal) (v:AVal) (l:List α) (F:List Nat):Prop :=
 (v=.nils∧l=[]∧F=[])∨∃ id g off vs,v=.sl id g off l.length esz∧h.get id=.cells g false vs∧id<h.n∧off+l.length*esz≤vs.length∧(vs.drop off).take (l.length*esz)=l.flatMap enc∧F=[id]
section
variable {α:Type} {enc:α→List AVal} {esz:Nat} {h h':AHeap} {v:AVal} {l:List α} {F:List Nat}
theorem SlX.of (s:SlOf h esz enc v l F):SlX h esz enc v l F:=by
 rcases s with ⟨a,b,c⟩ | ⟨id,g,off,vs,a,b,c,d,e,f⟩
 ·exact .inl ⟨a,b,c⟩
 ·exact .inr ⟨id,g,off,vs,a,b,c,by omega,by rw [←e,List.take_of_length_le];simp;omega,f⟩
theorem SlX.rd (s:SlX h esz enc v l F):SlRd h esz enc v l:=by
 rcases s with ⟨a,b,_⟩ | ⟨id,g,off,vs,a,b,c,d,e,_⟩
 ·exact .inl ⟨a,b⟩
 ·exact .inr ⟨id,g,off,vs,false,a,b,c,d,e⟩
theorem SlX.len (s:SlX h esz enc v l F) (h':AHeap):lenV h' v=some (.int .i64 l.length,h'):=s.rd.len h'
theorem SlX.frame (s:SlX h esz enc v l F) (hn:h.n≤h'.n) (k:∀ j,j∈F→h'.get j=h.get j):SlX h' esz enc v l F:=by
 rcases s with ⟨a,b,c⟩ | ⟨id,g,off,vs,a,b,c,d,e,f⟩
 ·exact .inl ⟨a,b,c⟩
 ·exact .inr ⟨id,g,off,vs,a,by rw [k id (by simp [f])];exact b,by omega,d,e,f⟩
theorem SlX.lt (s:SlX h esz enc v l F):∀ j,j∈F→j<h.n:=by
 rcases s with ⟨a,b,c⟩ | ⟨id,g,off,vs,a,b,c,d,e,f⟩
 ·simp [c]
 ·simp [f,c]
theorem SlX.cells (s:SlX h esz enc v l F):v.cells=[v]∧v.cell=true:=s.rd.cells
theorem SlX.beq (s:SlX h esz enc v l F):v.beq v=true:=s.rd.beq
theorem SlX.nil:SlX h esz enc .nils ([]:List α) []:=.inl ⟨rfl,rfl,rfl⟩
theorem SlX.app (s:SlX h esz enc v l F) {y:AVal} {l2:List α} (t:SlRd h esz enc y l2) (hE:∀ a,(enc a).length=esz) (hC:∀ a,a∈l2→(enc a).all (·.cell)=true) {bytes:Nat} (hb:(l.length+l2.length)*bytes≤1099511627776) {k:AVal→AHeap→Prop}
  (w:∀ v' h' F',SlX h' esz enc v' (l++l2) F'→HFrame h h' F F'→k v' h'):AM.wpOp (h.app esz bytes v y) k:=by
 have hcs:(l2.flatMap enc).all (·.cell)=true:=by
  rw [List.all_eq_true];intro x hx
  obtain ⟨a,ha1,ha⟩:=List.mem_flatMap.1 hx
  exact List.all_eq_true.1 (hC a ha1) x ha
 unfold AHeap.app
 rw [t.elems,Option.bind_some]
 simp only
 have hlt:=s.lt
 rcases s with ⟨a,b,c⟩ | ⟨id,g,off,vs,e1,e2,e3,e4,e5,e6⟩
 ·subst a b c
  simp only
  by_cases h0:l2.length=0
  ·rw [if_pos h0]
   have:l2=[]:=List.eq_nil_of_length_eq_zero h0
   subst this
   exact w _ _ [] (.inl ⟨rfl,rfl,rfl⟩) (HFrame.refl (by simp))
  ·rw [if_neg h0,if_pos ⟨by simpa using hb,hcs⟩]
   refine w _ _ [h.n] (.inr ⟨h.n,0,0,_,rfl,AHeap.get_push_same _ _,by simp,?_,?_,rfl⟩) ⟨by simp,rfl,fun j hj _=>AHeap.get_push_ne h _ (by omega),fun j hj=>.inr (by simp at hj;omega),fun j hj=>by simp at hj;simp;omega⟩
   ·rw [flat_len hE];simp
   ·simp only [List.drop_zero,List.nil_append]
    rw [List.take_of_length_le (by rw [flat_len hE];exact Nat.le_refl _)]
 ·subst e1 e6
  simp only
  by_cases h0:l2.length=0
  ·rw [if_pos h0,if_pos (by simp [AHeap.gen,e2])]
   have:l2=[]:=List.eq_nil_of_length_eq_zero h0
   subst this
   refine w _ _ [id] ?_ (HFrame.refl hlt)
   rw [List.append_nil]
   exact .inr ⟨id,g,off,vs,rfl,e2,e3,e4,e5,rfl⟩
  ·rw [if_neg h0,if_pos ⟨trivial,e3,hb,hcs⟩]
   simp only [e2]
   rw [if_pos ⟨trivial,by omega⟩]
   refine w _ _ [id] (.inr ⟨id,g+1,0,_,by rw [List.length_append],AHeap.get_set_same _ _ _,e3,?_,?_,rfl⟩) ⟨by simp,rfl,fun j hj hn=>AHeap.get_set_ne h _ (by simpa using hn),fun j hj=>.inl hj,hlt⟩
   ·rw [e5,List.length_append,List.length_append,flat_len hE,flat_len hE,Nat.add_mul];simp
   ·rw [e5,List.drop_zero,List.flatMap_append,List.take_of_length_le]
    rw [List.length_append,List.length_append,flat_len hE,flat_len hE,Nat.add_mul];exact Nat.le_refl _
theorem SlX.app1 (s:SlX h esz enc v l F) (hE:∀ a,(enc a).length=esz) (a:α) (hC:(enc a).all (·.cell)=true) {bytes:Nat} (hb:(l.length+1)*bytes≤1099511627776) {k:AVal→AHeap→Prop}
  (w:∀ v' h' F',SlX h' esz enc v' (l++[a]) F'→HFrame h h' F F'→k v' h'):AM.wpOp ((h.push (.cells 0 false (enc a))).app esz bytes v (.sl h.n 0 0 1 esz)) k:=by
 have f:=HFrame.push h (.cells 0 false (enc a)) s.lt
 refine SlX.app (s.frame (h':=h.push (.cells 0 false (enc a))) f.n fun j hj=>AHeap.get_push_ne h _ (by have:=s.lt j hj;omega)) (l2:=[a]) ?_ hE (fun b hb=>by rw [List.mem_singleton.1 hb];exact hC) (by simpa using hb) fun v' h' F' s' f'=>w v' h' F' s' (f.trans f')
 refine .inr ⟨h.n,0,0,enc a,false,rfl,AHeap.get_push_same _ _,by simp,by simp [hE],?_⟩
 simp [List.take_of_length_le,hE]
theorem flat_take (hE:∀ a,(enc a).length=esz) {m:Nat} (hm:m≤l.length):(l.flatMap enc).take (m*esz)=(l.take m).flatMap enc:=by
 have h2:((l.take m).flatMap enc++(l.drop m).flatMap enc).take (m*esz)=(l.take m).flatMap enc:=by
  rw [List.take_append_of_le_length (by rw [flat_len hE,List.length_take,Nat.min_eq_left hm];exact Nat.le_refl _),List.take_of_length_le (by rw [flat_len hE,List.length_take,Nat.min_eq_left hm];exact Nat.le_refl _)]
 rw [←List.flatMap_append,List.take_append_drop] at h2
 exact h2
theorem SlX.upto (s:SlX h esz enc v l F) (hE:∀ a,(enc a).length=esz) {m:Nat} (hm:m≤l.length) (k:IntKind):∃ v',slV h esz v none (some (.int k m))=some (v',h)∧SlX h esz enc v' (l.take m) F:=by
 rcases s with ⟨a,b,c⟩ | ⟨id,g,off,vs,a,b,c,d,e,f⟩
 ·subst a b c
  have:m=0:=by simpa using hm
  subst this
  exact ⟨.nils,rfl,.inl ⟨rfl,rfl,rfl⟩⟩
 ·subst a
  have h1:=Nat.mul_le_mul_right esz hm
  refine ⟨.sl id g off m esz,?_,.inr ⟨id,g,off,vs,by rw [List.length_take,Nat.min_eq_left hm],b,c,by rw [List.length_take,Nat.min_eq_left hm];omega,?_,f⟩⟩
  ·rw [AM.sl_st2 h (Int.natCast_nonneg _) (by omega),b,AM.slO_cells];rfl
  ·rw [List.length_take,Nat.min_eq_left hm,←flat_take hE hm,←e,List.take_take,Nat.min_eq_left h1]
theorem SlX.at1 {enc:α→AVal} (s:SlX h 1 (fun a=>[enc a]) v l F) {i:Nat} {a:α} (hi:l[i]?=some a) :
  ∃ id g off vs,v=.sl id g off l.length 1∧F=[id]∧h.get id=.cells g false vs∧id<h.n∧(∀ k:IntKind,ixV h 1 v (.int k (i:Int))=some (.ptr id g (off+i),h))∧vs[off+i]?=some (enc a)∧off+i+1≤vs.length ∧
   ∀ (h':AHeap) (b:α),h.n≤h'.n→h'.get id=.cells g false (vs.take (off+i)++[enc b]++vs.drop (off+i+1))→SlX h' 1 (fun a=>[enc a]) v (l.set i b) F:=by
 have hlt:=(List.getElem?_eq_some_iff.1 hi).1
 rcases s with ⟨_,b,_⟩ | ⟨id,g,off,vs,a1,b,c,d,e,f⟩
 ·subst b;simp at hi
 ·have fl:∀ l:List α,l.flatMap (fun a=>[enc a])=l.map enc:=fun l=>by induction l<;>simp_all
  have hx:vs[off+i]?=some (enc a):=by
   have:((vs.drop off).take (l.length*1))[i]?=some (enc a):=by rw [e,fl,List.getElem?_map,hi];rfl
   rwa [List.getElem?_take,if_pos (by omega),List.getElem?_drop] at this
  refine ⟨id,g,off,vs,a1,f,b,c,?_,hx,by omega,fun h' y hn g'=>.inr ⟨id,g,off,_,by rw [a1,List.length_set],g',by omega,?_,?_,f⟩⟩
  ·intro k
   rw [a1]
   have:=AM.ix_sl (k:=k) (n:=(i:Int)) (len:=l.length) (esz:=1) (off:=off) h b (by omega) (by omega)
   simpa using this
  ·simp only [List.length_set,List.length_append,List.length_take,List.length_cons,List.length_nil,List.length_drop];omega
  ·have e7:vs.take (off+i)++[enc y]++vs.drop (off+i+1)=vs.set (off+i) (enc y):=by
    rw [List.set_eq_take_append_cons_drop,if_pos (by omega),List.append_assoc];rfl
   rw [e7,List.length_set,fl,List.map_set,←fl,←e,List.drop_set,if_neg (by omega),show off+i-off=i by omega]
   apply List.ext_getElem?
   intro m
   rw [List.getElem?_take,List.getElem?_set,List.getElem?_set,List.getElem?_take,List.length_take,List.length_drop]
   by_cases hm:m<l.length*1
   ·rw [if_pos hm]
    by_cases em:i=m
    ·subst em;rw [if_pos rfl,if_pos rfl,if_pos (by omega),if_pos (by omega)]
    ·rw [if_neg em,if_neg em,if_pos hm]
   ·rw [if_neg hm,if_neg (by omega),if_neg hm]
end
def All2 {α β:Type} (P:Nat→α→β→Prop) (l:List α) (m:List β):Prop:=l.length=m.length∧∀ n a b,l[n]?=some a→m[n]?=some b→P n a b
section
variable {α β:Type} {P Q:Nat→α→β→Prop} {l:List α} {m:List β}
theorem All2.nil:All2 P [] []:=⟨rfl,fun n a b h=>by simp at h⟩
theorem All2.right (s:All2 P l m) {n:Nat} {b:β} (h:m[n]?=some b):∃ a,l[n]?=some a∧P n a b:=by
 have hn:=(List.getElem?_eq_some_iff.1 h).1
 have h1:l[n]?=some (l[n]'(by rw [s.1];exact hn)):=List.getElem?_eq_getElem _
 exact ⟨_,h1,s.2 n _ _ h1 h⟩
theorem All2.left (s:All2 P l m) {n:Nat} {a:α} (h:l[n]?=some a):∃ b,m[n]?=some b∧P n a b:=by
 have hn:=(List.getElem?_eq_some_iff.1 h).1
 have h1:m[n]?=some (m[n]'(by rw [←s.1];exact hn)):=List.getElem?_eq_getElem _
 exact ⟨_,h1,s.2 n _ _ h h1⟩
theorem All2.mono (s:All2 P l m) (i:∀ n a b,l[n]?=some a→m[n]?=some b→P n a b→Q n a b):All2 Q l m:=⟨s.1,fun n a b h1 h2=>i n a b h1 h2 (s.2 n a b h1 h2)⟩
theorem All2.snoc (s:All2 P l m) {a:α} {b:β} (p:P l.length a b):All2 P (l++[a]) (m++[b]):=by
 refine ⟨by simp [s.1],fun n x y h1 h2=>?_⟩
 by_cases hn:n<l.length
 ·rw [List.getElem?_append_left hn] at h1
  rw [List.getElem?_append_left (by rw [←s.1];exact hn)] at h2
  exact s.2 n x y h1 h2
 ·have hn2:=(List.getElem?_eq_some_iff.1 h1).1
  have:n=l.length:=by simp at hn2;omega
  subst this
  rw [List.getElem?_append_right (Nat.le_refl _)] at h1
  rw [List.getElem?_append_right (by rw [s.1];exact Nat.le_refl _)] at h2
  simp [s.1] at h1 h2
  subst h1 h2
  exact p
theorem All2.take (s:All2 P l m) (k:Nat):All2 P (l.take k) (m.take k):=by
 refine ⟨by simp [s.1],fun n x y h1 h2=>?_⟩
 rw [List.getElem?_take] at h1 h2
 split at h1
 ·rename_i hk;rw [if_pos hk] at h2;exact s.2 n x y h1 h2
 ·cases h1
theorem All2.upd (s:All2 P l m) {k:Nat} {b:β} {a':α} {b':β} (hb:m[k]?=some b) (p:Q k a' b') (i:∀ n a b,n≠k→P n a b→Q n a b):All2 Q (l.set k a') (m.set k b'):=by
 refine ⟨by simp [s.1],fun n x y h1 h2=>?_⟩
 by_cases e:k=n
 ·subst e
  have hk:=(List.getElem?_eq_some_iff.1 hb).1
  rw [List.getElem?_set_self (by rw [s.1];exact hk)] at h1
  rw [List.getElem?_set_self hk] at h2
  cases h1;cases h2;exact p
 ·rw [List.getElem?_set_ne e] at h1 h2
  exact i n x y (Ne.symm e) (s.2 n x y h1 h2)
theorem set_self {α:Type} {l:List α} {k:Nat} {a:α} (h:l[k]?=some a):l.set k a=l:=by
 apply List.ext_getElem?
 intro n
 by_cases e:k=n
 ·subst e;rw [List.getElem?_set_self (List.getElem?_eq_some_iff.1 h).1,h]
 ·rw [List.getElem?_set_ne e]
theorem All2.updR (s:All2 P l m) {k:Nat} {a:α} {b b':β} (ha:l[k]?=some a) (hb:m[k]?=some b) (p:Q k a b') (i:∀ n a b,n≠k→P n a b→Q n a b):All2 Q l (m.set k b'):=by
 have:=s.upd (Q:=Q) (a':=a) hb p i
 rwa [set_self ha] at this
end
inductive Tag where
 | no | ro | d | globals | things | gs | trace
 | rt (g:Nat) | frs (g:Nat)
 | fr (g k:Nat) | slots (g k:Nat) | lates (g k:Nat)
 | words (n:Nat) | chan (n:Nat)
 deriving DecidableEq
structure Chg (T:Tag→Prop) (h h':AHeap) (K K':Nat→Tag):Prop where
 n:h.n≤h'.n
 g:h'.g=h.g
 k:∀ j,j<h.n→K' j=K j
 get:∀ j,j<h.n→¬ T (K j)→h'.get j=h.get j
section
variable {T T1 T2:Tag→Prop} {h h1 h':AHeap} {K K1 K':Nat→Tag}
theorem Chg.refl (T:Tag→Prop) (h:AHeap) (K:Nat→Tag):Chg T h h K K:=⟨Nat.le_refl _,rfl,fun _ _=>rfl,fun _ _ _=>rfl⟩
theorem Chg.trans (a:Chg T h h1 K K1) (b:Chg T h1 h' K1 K'):Chg T h h' K K' :=
 ⟨Nat.le_trans a.n b.n,b.g.trans a.g,fun j hj=>(b.k j (Nat.lt_of_lt_of_le hj a.n)).trans (a.k j hj),fun j hj t=>(b.get j (Nat.lt_of_lt_of_le hj a.n) (by rw [a.k j hj];exact t)).trans (a.get j hj t)⟩
theorem Chg.wide (a:Chg T h h' K K') (i:∀ t,T t→T1 t):Chg T1 h h' K K':=⟨a.n,a.g,a.k,fun j hj t=>a.get j hj fun q=>t (i _ q)⟩
theorem Chg.of {A A':List Nat} (F:HFrame h h' A A') (i:∀ j,j∈A→j<h.n→T (K j)):Chg T h h' K K:=⟨F.n,F.g,fun _ _=>rfl,fun j hj t=>F.get j hj fun hm=>t (i j hm hj)⟩
theorem Chg.set (a:Chg T h h1 K K1) {i:Nat} (d:i<h.n→T (K i)) (o:AObj):Chg T h (h1.set i o) K K1 :=
 ⟨a.n,a.g,a.k,fun j hj t=>by
  rw [AHeap.get_set_ne]
  ·exact a.get j hj t
  ·rintro rfl;exact t (d hj)⟩
theorem Chg.push (a:Chg T h h1 K K1) (o:AObj):Chg T h (h1.push o) K K1 :=
 ⟨by have:=a.n;simp;omega,a.g,a.k,fun j hj t=>by rw [AHeap.get_push_ne _ _ (by have:=a.n;omega)];exact a.get j hj t⟩
theorem Chg.left (a:Chg T h h1 K K1) {A A':List Nat} (F:HFrame h1 h' A A') (i:∀ j,j∈A→j<h.n→T (K j)):Chg T h h' K K1 :=
 ⟨Nat.le_trans a.n F.n,F.g.trans a.g,a.k,fun j hj t=>(F.get j (Nat.lt_of_lt_of_le hj a.n) fun hm=>t (i j hm hj)).trans (a.get j hj t)⟩
theorem Chg.tag (a:Chg T h h1 K K1) {K2:Nat→Tag} (i:∀ j,j<h.n→K2 j=K j):Chg T h h1 K K2:=⟨a.n,a.g,i,a.get⟩
theorem Chg.keep (a:Chg T h h' K K') {j:Nat} (hj:j<h.n) {t:Tag} (hK:K j=t) (nt:¬ T t):h'.get j=h.get j:=a.get j hj (by rw [hK];exact nt)
def Ro (h:AHeap) (K:Nat→Tag) (φ:AHeap→Prop):Prop:=∀ h',h.n≤h'.n→(∀ j,j<h.n→K j=.ro→h'.get j=h.get j)→φ h'
theorem Ro.now {φ:AHeap→Prop} (r:Ro h K φ):φ h:=r h (Nat.le_refl _) fun _ _ _=>rfl
theorem Ro.keep {φ:AHeap→Prop} (r:Ro h K φ) (c:Chg T h h' K K') (nt:¬ T .ro):Ro h' K' φ:=fun h'' hn hk =>
 r h'' (Nat.le_trans c.n hn) fun j hj e=>(hk j (Nat.lt_of_lt_of_le hj c.n) ((c.k j hj).trans e)).trans (c.keep hj e nt)
theorem Ro.at {φ:AHeap→Prop} (r:Ro h K φ) (c:Chg T h h' K K') (nt:¬ T .ro):φ h':=(r.keep c nt).now
def Ow (h:AHeap) (K:Nat→Tag) (t:Tag) (esz:Nat) {α:Type} (enc:α→List AVal) (v:AVal) (l:List α):Prop:=∃ F,SlX h esz enc v l F∧∀ j,j∈F→K j=t
variable {α:Type} {enc:α→List AVal} {esz:Nat} {v:AVal} {l:List α} {t:Tag}
theorem Ow.keep (s:Ow h K t esz enc v l) (c:Chg T h h' K K') (nt:¬ T t):Ow h' K' t esz enc v l:=by
 obtain ⟨F,s,k⟩:=s
 exact ⟨F,s.frame c.n fun j hj=>c.keep (s.lt j hj) (k j hj) nt,fun j hj=>(c.k j (s.lt j hj)).trans (k j hj)⟩
theorem Ow.len (s:Ow h K t esz enc v l) (h':AHeap):lenV h' v=some (.int .i64 l.length,h'):=by obtain ⟨F,s,_⟩:=s;exact s.len h'
theorem Ow.cells (s:Ow h K t esz enc v l):v.cells=[v]∧v.cell=true:=by obtain ⟨F,s,_⟩:=s;exact s.cells
theorem Ow.beq (s:Ow h K t esz enc v l):v.beq v=true:=by obtain ⟨F,s,_⟩:=s;exact s.beq
theorem Ow.rd (s:Ow h K t esz enc v l):SlRd h esz enc v l:=by obtain ⟨F,s,_⟩:=s;exact s.rd
theorem Ow.nil:Ow h K t esz enc .nils ([]:List α):=⟨[],SlX.nil,by simp⟩
theorem Ow.upto (s:Ow h K t esz enc v l) (hE:∀ a,(enc a).length=esz) {m:Nat} (hm:m≤l.length) (k:IntKind):∃ v',slV h esz v none (some (.int k m))=some (v',h)∧Ow h K t esz enc v' (l.take m):=by
 obtain ⟨F,s,q⟩:=s
 obtain ⟨v',a,b⟩:=s.upto hE hm k
 exact ⟨v',a,F,b,q⟩
theorem Ow.app1 (s:Ow h K t esz enc v l) (hE:∀ a,(enc a).length=esz) (a:α) (hC:(enc a).all (·.cell)=true) {bytes:Nat} (hb:(l.length+1)*bytes≤1099511627776) {k:AVal→AHeap→Prop}
  (w:∀ v' h' K',Ow h' K' t esz enc v' (l++[a])→Chg (·=t) h h' K K'→(∀ j,K' j=K j∨(h.n≤j∧j<h'.n))→k v' h'):AM.wpOp ((h.push (.cells 0 false (enc a))).app esz bytes v (.sl h.n 0 0 1 esz)) k:=by
 obtain ⟨F,s,q⟩:=s
 refine s.app1 hE a hC hb fun v' h' F' s' f=>w v' h' (fun j=>if h.n≤j∧j∈F' then t else K j) ⟨F',s',fun j hj=>?_⟩ ((Chg.of f fun j hj _=>q j hj).tag fun j hj=>if_neg (by omega)) fun j=>?_
 ·rcases f.new j hj with e | e
  ·have:=s.lt j e
   show (if _ then _ else _)=_
   rw [if_neg (by omega)];exact q j e
  ·exact if_pos ⟨e,hj⟩
 ·by_cases c:h.n≤j∧j∈F'
  ·exact .inr ⟨c.1,f.lt j c.2⟩
  ·exact .inl (if_neg c)
theorem Ow.at1 {enc:α→AVal} (s:Ow h K t 1 (fun a=>[enc a]) v l) {i:Nat} {a:α} (hi:l[i]?=some a) :
  ∃ id g off vs,v=.sl id g off l.length 1∧K id=t∧h.get id=.cells g false vs∧id<h.n∧(∀ k:IntKind,ixV h 1 v (.int k (i:Int))=some (.ptr id g (off+i),h))∧vs[off+i]?=some (enc a)∧off+i+1≤vs.length ∧
   ∀ (h':AHeap) (b:α),h.n≤h'.n→h'.get id=.cells g false (vs.take (off+i)++[enc b]++vs.drop (off+i+1))→Ow h' K t 1 (fun a=>[enc a]) v (l.set i b):=by
 obtain ⟨F,s,q⟩:=s
 obtain ⟨id,g,off,vs,e1,e2,e3,e4,e5,e6,e7,e8⟩:=s.at1 hi
 exact ⟨id,g,off,vs,e1,q id (by simp [e2]),e3,e4,e5,e6,e7,fun h' b hn hg=>⟨F,e8 h' b hn hg,q⟩⟩
theorem Ro.of {F:List Nat} (s:SlX h' esz enc v l F) (hK:∀ j,j∈F→K j=.ro):Ro h' K fun h=>SlRd h esz enc v l:=fun h'' hn hk=>(s.frame hn fun j hj=>hk j (s.lt j hj) (hK j hj)).rd
theorem Ro.nil:Ro h K fun h=>SlRd h esz enc .nils ([]:List α):=fun _ _ _=>.inl ⟨rfl,rfl⟩
end
end Go.Proofs.Ytnbnpjhlflcjeaa.Id
namespace Go.Proofs.Ytnbnpjhlflcjeaa.Id
open Go Go.AM Go.Proofs.Ytnbnpjhlflcjeaa.AmGF
open Nat renaming reduceAdd → qA,reduceLeDiff → qB,reduceEqDiff → qC,reduceLT → qE
open Int renaming reduceToNat → qD,reduceEq → qG,reduceLT → qH,reduceLE → qI
/-! The pure run: what the Go text computes; `none`: it would panic,or it is not covered. -/
structure Late where
 fn:Int
 args:List Int
structure Frame where
 fn:Int
 pc:Int
 serial:Int
 slots:List Int
 into:List Int
 lates:List Late
 mode:Int
 ending:Bool
 saved:List Int
structure Routine where
 state:Int
 till:Int
 sleeps:Bool
 frames:List Frame
 serial:Int
 panics:Bool
 number:Int
 hit:Bool
structure Thing where
 kind:Int
 words:List Int
 ch:Option CS
structure Run where
 p:PProg
 globals:List Int
 things:List Thing
 gs:List Routine
 clock:Int
 trace:List (Int×Int×Int)
 ended:Bool
 g:Int
def u64 (x:Int):Int:=IntKind.u64.wrap x
def i64 (x:Int):Int:=IntKind.i64.wrap x
def bitI (b:Bool):Int:=if b then 1 else 0
def at? {α:Type} (l:List α) (x:Int):Option α:=if 0≤x then l[x.toNat]? else none
def set? {α:Type} (l:List α) (x:Int) (a:α):Option (List α):=if 0≤x∧x<l.length then some (l.set x.toNat a) else none
def app? {α:Type} (l:List α) (a:α):Option (List α):=if l.length<1000000000 then some (l++[a]) else none
def Run.setR (d:Run) (k:Nat) (r:Routine):Run:={ d with gs:=d.gs.set k r }
def Routine.setF (r:Routine) (j:Nat) (f:Frame):Routine:={ r with frames:=r.frames.set j f }
def Run.setF (d:Run) (k j:Nat) (f:Frame):Run:=match d.gs[k]? with
 | some r=>d.setR k (r.setF j f)
 | none=>d
def Run.fr? (d:Run) (k j:Nat):Option Frame:=d.gs[k]?.bind fun r=>r.frames[j]?
def Run.put (d:Run) (k j:Nat) (a w:Int):Option Run:=(d.fr? k j).bind fun f=>(set? f.slots a w).map fun s=>d.setF k j { f with slots:=s }
def Run.tell (d:Run) (kind value:Int):Option Run :=
 if kind≤2∧(d.trace.length:Int)=4095 then (app? d.trace (7,d.g,0)).map fun t=>{ d with trace:=t,ended:=true }
 else (app? d.trace (kind,d.g,value)).map fun t=>{ d with trace:=t,ended:=decide (2<kind) }
def Run.stuck (d:Run):Bool:=d.gs.all fun r=>!(decide (r.state=1)||r.sleeps)
def copyW (n:Nat) (args:List Int):List Int:=args.take n++List.replicate (n-args.length) 0
def newF (p:PProg) (fn:Int) (args:List Int):Option Frame:=(at? p.funcs fn).bind fun F=>if F.slots.length<1000000 then some ⟨fn,0,0,copyW F.slots.length args,[],[],0,false,[]⟩ else none
def Routine.push (r:Routine) (f:Frame):Option Routine:=if r.frames.length<1000000 then some { r with serial:=u64 (r.serial+1),frames:=r.frames++[{ f with serial:=u64 (r.serial+1) }] } else none
def routine0:Routine:=⟨1,0,false,[],0,false,0,false⟩
def Run.begin (d:Run) (fn:Int) (args:List Int):Option Run:=(newF d.p fn args).bind fun f=>(routine0.push f).bind fun r=>(app? d.gs r).map fun gs=>{ d with gs:=gs }
def lim {α:Type} (l:List α) (n:Nat):Option Unit:=if l.length<n then some () else none
def Run.run (d:Run) (k j:Nat) (mode:Int):Option Run:=d.gs[k]?.bind fun r=>r.frames[j]?.bind fun f=>(lim f.lates 1000000).bind fun _=>f.lates.getLast?.bind fun l=>(newF d.p l.fn l.args).bind fun g =>
 ((r.setF j { f with lates:=f.lates.take (f.lates.length-1) }).push { g with mode:=mode }).map fun r=>d.setR k r
def trimN (fs:List Frame):Nat→Nat
 | 0=>0
 | n+1=>match fs[n]? with
  | some f=>if f.lates.isEmpty then trimN fs n else n+1
  | none=>trimN fs n
def Run.unwind (d:Run) (k:Nat):Option Run:=d.gs[k]?.bind fun r=>(lim r.frames 1000000).bind fun _ =>
 match trimN r.frames r.frames.length with
 | 0=>(d.setR k { r with frames:=r.frames.take 0,state:=3 }).tell 4 (u64 r.number)
 | n+1=>(d.setR k { r with frames:=r.frames.take (n+1) }).run k n 2
def Run.panic (d:Run) (number:Int):Option Run:=(at? d.gs d.g).bind fun r=>(d.setR d.g.toNat { r with panics:=true,number:=number }).unwind d.g.toNat
def putAll (s:List Int):List Int→List Int→Option (List Int)
 | [],_=>some s
 | _::_,[]=>none
 | n::ns,w::ws=>(set? s n w).bind fun s=>putAll s ns ws
def Run.leaveN:Nat→Run→Nat→Option Run
 | 0,_,_=>none
 | n+1,d,k=>d.gs[k]?.bind fun r=>r.frames[r.frames.length-1]?.bind fun f =>
  if f.lates.isEmpty=false then d.run k (r.frames.length-1) 1 else
  let r1:Routine:={ r with frames:=r.frames.take (r.frames.length-1) }
  if r.frames.length-1=0 then (if d.g=0 then (d.setR k { r1 with state:=3 }).tell 3 0 else some (d.setR k { r1 with state:=3 }))
  else r.frames[r.frames.length-2]?.bind fun b =>
   if f.mode=0 then (lim f.into 1000000).bind fun _=>(putAll b.slots f.into f.saved).map fun s=>d.setR k (r1.setF (r.frames.length-2) { b with slots:=s })
   else if f.mode=2 then (if r.panics then (d.setR k r1).unwind k else (at? d.p.funcs b.fn).bind fun F=>(lim F.results 1000000).bind fun _=>Run.leaveN n (d.setR k (r1.setF (r.frames.length-2) { b with ending:=true,saved:=List.replicate F.results.length 0 })) k)
   else Run.leaveN n (d.setR k r1) k
def Run.leave (d:Run) (k:Nat):Option Run:=d.gs[k]?.bind fun r=>(lim r.frames 1000000).bind fun _=>Run.leaveN r.frames.length d k
def valsL (s:List Int):List Int→Option (List Int)
 | []=>some []
 | n::l=>(at? s n).bind fun w=>(valsL s l).map fun t=>w::t
def vals (s l:List Int):Option (List Int):=if l.length<1000000 then valsL s l else none
def wok (x:Int):Bool:=decide (0≤x)&&decide (x≤18446744073709551615)
def wholeF (op x y:Int):Option (Option Int) :=
 if wok x=true∧wok y=true then
  if op=3 then some (some (u64 (x+y)))
  else if op=4 then some (some (u64 (x-y)))
  else if op=5 then some (some (u64 (x*y)))
  else if op=8 then some (some ((x.toNat &&& y.toNat:Nat):Int))
  else if op=9 then some (some ((x.toNat ||| y.toNat:Nat):Int))
  else if op=10 then some (some ((x.toNat ^^^ y.toNat:Nat):Int))
  else if op=11 then some (some (u64 (x*2^(y.toNat%64))))
  else if op=12 then some (some (u64 ((i64 x).fdiv (2^(y.toNat%64)))))
  else if op=13∨op=23 then some (some (bitI (decide (x=y))))
  else if op=14 then some (some (bitI (decide (i64 x<i64 y))))
  else if y=0 then some none
  else if op=6 then some (some (u64 (i64 ((i64 x).tdiv (i64 y)))))
  else some (some (u64 ((i64 x).tmod (i64 y))))
 else none
def refersF (w:Int):List Frame→Nat→Option (Option (Nat×Nat))
 | [],_=>some none
 | f::fs,k=>if f.serial=u64 (w.tdiv 64)∧0<w then (if (w.tmod 64).toNat<f.slots.length then some (some (k,(w.tmod 64).toNat)) else none) else refersF w fs (k+1)
def Run.sleep (d:Run) (k:Nat) (ticks:Int):Option Run :=
 if ticks≤0∨d.clock=1099511627776 then some d else
  d.gs[k]?.map fun r=>d.setR k { r with till:=min (u64 (d.clock+min (u64 ticks) 1099511627776)) 1099511627776,sleeps:=true,state:=2 }
def Run.addT (d:Run) (t:Thing):Option Run:=(app? d.things t).map fun l=>{ d with things:=l }
def zeros (n:Nat):List Int:=List.replicate n 0
def Run.sl (d:Run) (k j:Nat) (a:Int):Option Int:=(d.fr? k j).bind fun f=>at? f.slots a
def Run.memory (d:Run) (k j:Nat) (i:PIns):Option Run :=
 if i.op=33 then (at? d.globals i.b).bind fun w=>d.put k j i.a w
 else if i.op=34 then (d.sl k j i.b).bind fun w=>(set? d.globals i.a w).map fun l=>{ d with globals:=l }
 else if i.op=26 then (at? d.p.types i.b).bind fun t=>(lim t.2 1000000).bind fun _=>(d.addT ⟨i64 (16+i.b),zeros t.2.length,none⟩).bind fun d'=>d'.put k j i.a d.things.length
 else if i.op=27 then (d.sl k j i.c).bind fun n=>if i64 n<0∨1023<i64 n then d.panic (-2) else (d.addT ⟨i64 (16+i.b),zeros (i64 n).toNat,none⟩).bind fun d'=>d'.put k j i.a d.things.length
 else (d.sl k j (if i.op=30∨i.op=32 then i.a else i.b)).bind fun o =>
  if o=0 then d.panic (-1) else (at? d.things o).bind fun t =>
   (if i.op=31∨i.op=32 then (d.sl k j i.c).map i64 else some i.c).bind fun x =>
   if (i.op=31∨i.op=32)∧(x<0∨(t.words.length:Int)≤x) then d.panic (-2)
   else if i.op=28 then d.put k j i.a (u64 t.words.length)
   else if i.op=29∨i.op=31 then (at? t.words x).bind fun w=>d.put k j i.a w
   else (d.sl k j i.b).bind fun w=>(set? t.words x w).map fun ws=>{ d with things:=d.things.set o.toNat { t with words:=ws } }
def Run.calls (d:Run) (k j:Nat) (i:PIns):Option Run:=d.gs[k]?.bind fun r=>r.frames[j]?.bind fun f =>
 if i.op=35 then
  if 64≤r.frames.length then d.panic (-5) else (at? d.p.funcs i.a).bind fun F =>
   if 0≤F.params∧F.params≤i.list.length then (vals f.slots (i.list.take F.params.toNat)).bind fun args=>(newF d.p i.a args).bind fun g=>(r.push { g with into:=i.list.drop F.params.toNat }).map fun r=>d.setR k r
   else none
 else if i.op=37 then
  if d.gs.length=64 then d.tell 7 0 else (vals f.slots i.list).bind fun args=>d.begin i.a args
 else if i.op=38 then
  if 64≤r.frames.length∨f.lates.length=16 then d.panic (-5) else (vals f.slots i.list).bind fun args=>(app? f.lates ⟨i.a,args⟩).map fun l=>d.setR k (r.setF j { f with lates:=l })
 else if i.op=36 then (vals f.slots i.list).bind fun args=>(d.setR k (r.setF j { f with ending:=true,saved:=args })).leave k
 else if i.op=39 then (at? f.slots i.a).bind fun w=>d.panic (i64 w)
 else if i.op=40 then
  if f.mode=2∧r.panics=true then (set? f.slots i.a 0).bind fun s=>(set? s i.b 0).bind fun s=>(set? s i.a (u64 r.number)).bind fun s=>(set? s i.b 1).map fun s=>d.setR k { r.setF j { f with slots:=s } with panics:=false }
  else (set? f.slots i.a 0).bind fun s=>(set? s i.b 0).map fun s=>d.setR k (r.setF j { f with slots:=s })
 else some d
def Run.channel (d:Run) (w:Int):Option (Option CS):=if w=0 then some none else (at? d.things w).map fun t=>t.ch
def Run.setCh (d:Run) (w:Int) (s:CS):Run:=match at? d.things w with
 | some t=>{ d with things:=d.things.set w.toNat { t with ch:=some s } }
 | none=>d
def smallB (s:CS):Bool:=decide (s.ps.length<1073741824)&&decide (s.ss.length<1073741824)&&decide (s.gs.length<1073741824)
def smallQ (s:CS):Option CS:=if smallB s then some s else none
def leaveS (s:CS) (id:Int):CS:={ s with ss:=keepW id s.ss,gs:=keepW id s.gs }
def nameI (g k:Int):Int:=i64 (i64 (i64 (g*64)+k)+1)
def leaveAll (sl:List Int) (g:Int) (d:Run):Nat→List Int→Option Run
 | _,[]=>some d
 | m,_::c::_::l=>(at? sl c).bind fun w=>(d.channel w).bind fun s=>match s with
  | none=>leaveAll sl g d (m+1) l
  | some s=>(smallQ s).bind fun s=>leaveAll sl g (d.setCh w (leaveS s (nameI g (m:Nat)))) (m+1) l
 | _,_=>none
def Run.wake (d:Run) (who value:Int) (closed:Bool):Option Run:=if who<0∨4611686018427387904<who then none else (at? d.gs (who.tdiv 64)).bind fun r =>
 if r.state≠2∨r.sleeps=true then some d else (lim r.frames 1000000).bind fun _=>r.frames[r.frames.length-1]?.bind fun f=>(at? d.p.funcs f.fn).bind fun F=>(at? F.code (i64 (f.pc-1))).bind fun i =>
  let k:=(who.tdiv 64).toNat
  let j:=r.frames.length-1
  let r1:Routine:={ r with state:=1 }
  if i.op≠45 then
   if i.op=43 then (set? f.slots i.a value).bind fun s=>(set? s i.c (bitI (!closed))).map fun s=>d.setR k (r1.setF j { f with slots:=s })
   else some (d.setR k { r1 with hit:=closed })
  else (lim i.list 1000000).bind fun _=>(leaveAll f.slots (who.tdiv 64) (d.setR k r1) 0 i.list).bind fun d =>
   let c:=who.tmod 64-1
   (set? f.slots i.a (u64 c)).bind fun s=>(at? i.list (3*c)).bind fun dir =>
    if dir=1 then (at? i.list (3*c+2)).bind fun n=>(set? s n value).map fun s=>d.setR k (r1.setF j { f with slots:=s })
    else some (d.setR k { r1.setF j { f with slots:=s } with hit:=closed })
def Run.send (d:Run) (w who value:Int) (wait:Bool):Option (Bool×Run):=(d.channel w).bind fun s=>s.bind fun s=>(smallQ s).bind fun s =>
 let r:=s.send who value wait
 let d:=d.setCh w r.2
 if r.1.1=2 then (d.wake r.1.2 value false).map fun d=>(true,d)
 else if r.1.1=4 then (d.panic (-4)).map fun d=>(true,d)
 else some (decide (r.1.1≠3),d)
def Run.receive (d:Run) (k j:Nat) (w who a ok:Int) (wait:Bool):Option (Bool×Run):=(d.channel w).bind fun s=>s.bind fun s=>(smallQ s).bind fun s =>
 let r:=s.recv who wait
 let d:=d.setCh w r.2
 if r.1.1=3 then some (false,d) else (d.put k j a r.1.2.2).bind fun d=>(if 0≤ok then d.put k j ok (bitI (decide (r.1.1≠4))) else some d).bind fun d =>
  (if r.1.1=2 then d.wake r.1.2.1 0 false else some d).map fun d=>(true,d)
def wakeAll (d:Run):List Int→Option Run
 | []=>some d
 | w::l=>(d.wake w 0 true).bind fun d=>wakeAll d l
def Run.close (d:Run) (w:Int):Option Run:=(d.channel w).bind fun s=>match s with
 | none=>d.panic (-1)
 | some s=>(smallQ s).bind fun s=>if s.cl then d.panic (-4) else wakeAll (d.setCh w { s with cl:=true,ss:=[],gs:=[] }) (s.gs.map (·.1)++s.ss.map (·.1))
def readies (d:Run) (sl:List Int):Nat→List Int→Option (List Int)
 | _,[]=>some []
 | m,dir::c::_::l=>(at? sl c).bind fun w=>(d.channel w).bind fun s=>(readies d sl (m+3) l).map fun t=>match s with
  | none=>t
  | some s=>if s.ready (decide (dir=0)) then (m:Int)::t else t
 | _,_=>none
def Run.one (d:Run) (k j:Nat) (i:PIns) (n:Int) (wait:Bool):Option Run:=(d.fr? k j).bind fun f=>(lim i.list 1000000).bind fun _=>(at? i.list n).bind fun dir=>(at? i.list (n+1)).bind fun c=>(at? i.list (n+2)).bind fun slot=>(at? f.slots c).bind fun w =>
 let who:=nameI d.g (i64 (n.tdiv 3))
 if wait then (at? f.slots slot).bind fun v=>(d.channel w).bind fun s=>s.bind fun s=>(smallQ s).map fun s=>d.setCh w (if dir=0 then { s with ss:=s.ss++[(who,v)] } else { s with gs:=s.gs++[(who,0)] })
 else (d.put k j i.a (u64 (i64 (n.tdiv 3)))).bind fun d =>
  if dir=0 then (d.sl k j slot).bind fun v=>(d.send w who v false).map (·.2)
  else (d.receive k j w who slot (-1) false).map (·.2)
def waitAll (d:Run) (k j:Nat) (sl:List Int) (i:PIns):Nat→List Int→Option Run
 | _,[]=>some d
 | m,_::c::_::l=>(at? sl c).bind fun w=>(d.channel w).bind fun s=>match s with
  | none=>waitAll d k j sl i (m+3) l
  | some _=>(d.one k j i (m:Int) true).bind fun d=>waitAll d k j sl i (m+3) l
 | _,_=>none
def Run.choose (d:Run) (k j:Nat) (i:PIns) (choice:Int):Option Run:=d.gs[k]?.bind fun r=>r.frames[j]?.bind fun f=>(lim i.list 1000000).bind fun _=>(readies d f.slots 0 i.list).bind fun ready =>
 if ready.length=0∧i.b=1 then d.put k j i.a 18446744073709551615
 else if 0<ready.length then (at? ready (choice.tmod ready.length)).bind fun n=>d.one k j i n false
 else waitAll (d.setR k { r with state:=2 }) k j f.slots i 0 i.list
def Run.waits (d:Run) (k:Nat):Option Run:=d.gs[k]?.map fun r=>d.setR k { r with state:=2 }
def Run.channels (d:Run) (k j:Nat) (i:PIns) (choice:Int):Option Run:=(d.fr? k j).bind fun f =>
 if i.op=41 then
  if i.imm≤16 then (at? d.p.funcs f.fn).bind fun F=>(at? F.slots i.a).bind fun kind=>(d.addT ⟨kind,zeros (i.imm+2),some ⟨[],i.imm,false,[],[]⟩⟩).bind fun d'=>d'.put k j i.a d.things.length
  else none
 else if i.op=44 then (at? f.slots i.a).bind fun w=>d.close w
 else if i.op=42 then (at? f.slots i.a).bind fun w=>(d.channel w).bind fun s=>match s with
  | none=>d.waits k
  | some _=>(at? f.slots i.b).bind fun v=>(d.send w (nameI d.g (-1)) v true).bind fun x=>if x.1 then some x.2 else x.2.waits k
 else if i.op=43 then (at? f.slots i.b).bind fun w=>(d.channel w).bind fun s=>match s with
  | none=>d.waits k
  | some _=>(d.receive k j w (nameI d.g (-1)) i.a i.c true).bind fun x=>if x.1 then some x.2 else x.2.waits k
 else if i.op=45 then d.choose k j i choice
 else some d
def isWhole (op:Int):Bool:=(decide (3≤op)&&decide (op≤14))||decide (op=23)
def isMem (op:Int):Bool:=decide (26≤op)&&decide (op≤34)
def isCall (op:Int):Bool:=decide (35≤op)&&decide (op≤40)
def isFloat (op:Int):Bool:=decide (15≤op)&&decide (op≤22)
def isChan (op:Int):Bool:=decide (41≤op)&&decide (op≤45)
def Run.kindOf (d:Run) (f:Frame) (a:Int):Option Int:=(at? d.p.funcs f.fn).bind fun F=>at? F.slots a
def Run.execute (d:Run) (k j:Nat) (i:PIns) (choice:Int):Option Run:=d.gs[k]?.bind fun r=>r.frames[j]?.bind fun f =>
 if i.op=1 then (d.kindOf f i.a).bind fun t=>d.put k j i.a (if t=1 then canonF i.imm else i.imm)
 else if i.op=2 then (at? f.slots i.b).bind fun w=>d.put k j i.a w
 else if isWhole i.op then (at? f.slots i.b).bind fun x=>(at? f.slots i.c).bind fun y=>(wholeF i.op x y).bind fun w=>match w with
  | none=>d.panic (-3)
  | some w=>d.put k j i.a w
 else if isFloat i.op then (at? f.slots i.b).bind fun x=>if i.op=21 then d.put k j i.a (fromF (i64 x)) else if i.op=22 then (toIF x).bind fun n=>d.put k j i.a (u64 n) else (at? f.slots i.c).bind fun y=>d.put k j i.a (floatF i.op x y)
 else if i.op=24 then some (d.setR k (r.setF j { f with pc:=i.a }))
 else if i.op=25 then (at? f.slots i.a).map fun w=>if w=0 then d.setR k (r.setF j { f with pc:=i.b }) else d
 else if i.op=47 then some d
 else if i.op=52 then (at? f.slots i.a).bind fun w=>d.tell 3 w
 else if i.op=46 then (at? f.slots i.a).bind fun w=>d.sleep k (i64 w)
 else if i.op=48 then (d.kindOf f i.a).bind fun t=>(at? f.slots i.a).bind fun w=>d.tell (if t=1 then 2 else 1) w
 else if i.op=49 then d.put k j i.a (u64 (u64 (f.serial*64)+u64 i.b))
 else if i.op=50 then (at? f.slots i.b).bind fun w=>(lim r.frames 1000000).bind fun _=>(if wok w=true then refersF w r.frames 0 else none).bind fun x=>match x with
  | none=>d.panic (-1)
  | some (n,m)=>(r.frames[n]?.bind fun f=>f.slots[m]?).bind fun v=>d.put k j i.a v
 else if i.op=51 then (at? f.slots i.a).bind fun w=>(lim r.frames 1000000).bind fun _=>(if wok w=true then refersF w r.frames 0 else none).bind fun x=>match x with
  | none=>d.panic (-1)
  | some (n,m)=>(at? f.slots i.b).bind fun v=>d.put k n m v
 else if isMem i.op then d.memory k j i
 else if isCall i.op then d.calls k j i
 else if isChan i.op then d.channels k j i choice else none
def Run.ending (d:Run):Option Run:=(lim d.gs 1000000).bind fun _=>if d.ended=false∧d.stuck=true then d.tell 5 0 else some d
def Run.act (d:Run) (k:Nat) (choice:Int):Option Run:=d.gs[k]?.bind fun r =>
 if r.hit then (d.setR k { r with hit:=false }).panic (-4)
 else (lim r.frames 1000000).bind fun _=>r.frames[r.frames.length-1]?.bind fun f=>(at? d.p.funcs f.fn).bind fun F=>(at? F.code f.pc).bind fun i =>
  (d.setR k (r.setF (r.frames.length-1) { f with pc:=i64 (f.pc+1) })).execute k (r.frames.length-1) i choice
def Run.step (d:Run) (g choice:Int):Option (Int×Run):=match at? d.gs g with
 | none=>some (4,d)
 | some r=>if d.ended=true∨r.state≠1 then some (5,d) else (({ d with g:=g }:Run).act g.toNat choice).bind fun d=>d.ending.map fun d=>(0,d)
def Run.new (p:PProg):Option Run:=({ p:=p,globals:=zeros p.globals.length,things:=[⟨0,[],none⟩],gs:=[],clock:=0,trace:=[],ended:=false,g:=0 }:Run).begin 0 []
end Go.Proofs.Ytnbnpjhlflcjeaa.Id
namespace Go.Proofs.Ytnbnpjhlflcjeaa.Id
open Go Go.AM Go.Proofs.Ytnbnpjhlflcjeaa.AmGF
open Nat renaming reduceAdd → qA,reduceLeDiff → qB,reduceEqDiff → qC,reduceLT → qE
open Int renaming reduceToNat → qD,reduceEq → qG,reduceLT → qH,reduceLE → qI
abbrev encQ (id:Nat):List AVal:=[.ptr id 0 0]
abbrev encE (e:Int×Int×Int):List AVal:=[.int .i64 e.1,.int .i64 e.2.1,.int .u64 e.2.2]
abbrev encL (l:Int×AVal):List AVal:=[.int .i64 l.1,l.2]
abbrev encT (t:Int×AVal×AVal):List AVal:=[.int .i64 t.1,t.2.1,t.2.2]
def SlK (h:AHeap) (K:Nat→Tag) (esz:Nat) {α:Type} (R:α→List AVal→Prop) (v:AVal) (l:List α):Prop :=
 (v=.nils∧l=[])∨∃ (id g off:Nat) (vs:List AVal) (ro:Bool) (rows:List (List AVal)),v=.sl id g off l.length esz∧K id=.ro∧id<h.n∧h.get id=.cells g ro vs∧off+l.length*esz≤vs.length∧(vs.drop off).take (l.length*esz)=rows.flatten∧rows.length=l.length∧(∀ row,row∈rows→row.length=esz) ∧
  ∀ (i:Nat) (a:α) (row:List AVal),l[i]?=some a→rows[i]?=some row→R a row
def TypeO (h:AHeap) (K:Nat→Tag) (t:Bool×List Int) (row:List AVal):Prop:=∃ v,row=[.bool t.1,v]∧Ro h K fun h=>SlRd h 1 encK v t.2
def InsO (h:AHeap) (K:Nat→Tag) (i:PIns) (row:List AVal):Prop:=∃ v,row=[.int .i64 i.op,.int .i64 i.a,.int .i64 i.b,.int .i64 i.c,.int .u64 i.imm,v]∧Ro h K fun h=>SlRd h 1 encK v i.list
def FuncO (h:AHeap) (K:Nat→Tag) (f:PFunc) (row:List AVal):Prop:=∃ sv rv cv,row=[.int .i64 f.params,sv,rv,cv]∧(Ro h K fun h=>SlRd h 1 encK sv f.slots)∧(Ro h K fun h=>SlRd h 1 encK rv f.results)∧SlK h K 6 (InsO h K) cv f.code
structure ProgO (h:AHeap) (K:Nat→Tag) (p:PProg) (tv gv fv:AVal):Prop where
 t:SlK h K 2 (TypeO h K) tv p.types
 g:Ro h K fun h=>SlRd h 1 encK gv p.globals
 f:SlK h K 4 (FuncO h K) fv p.funcs
section
variable {T:Tag→Prop} {h h':AHeap} {K K':Nat→Tag}
theorem SlK.keep {esz:Nat} {α:Type} {R R':α→List AVal→Prop} {v:AVal} {l:List α} (s:SlK h K esz R v l) (c:Chg T h h' K K') (nt:¬ T .ro) (i:∀ a row,R a row→R' a row):SlK h' K' esz R' v l:=by
 rcases s with s | ⟨id,g,off,vs,ro,rows,e1,e2,e3,e4,e5,e6,e7,e8,e9⟩
 ·exact .inl s
 ·exact .inr ⟨id,g,off,vs,ro,rows,e1,(c.k id e3).trans e2,Nat.lt_of_lt_of_le e3 c.n,(c.keep e3 e2 nt).trans e4,e5,e6,e7,e8,fun i' a row h1 h2=>i _ _ (e9 i' a row h1 h2)⟩
theorem InsO.keep {i:PIns} {row:List AVal} (s:InsO h K i row) (c:Chg T h h' K K') (nt:¬ T .ro):InsO h' K' i row:=by
 obtain ⟨v,e,r⟩:=s;exact ⟨v,e,r.keep c nt⟩
theorem TypeO.keep {i:Bool×List Int} {row:List AVal} (s:TypeO h K i row) (c:Chg T h h' K K') (nt:¬ T .ro):TypeO h' K' i row:=by
 obtain ⟨v,e,r⟩:=s;exact ⟨v,e,r.keep c nt⟩
theorem FuncO.keep {f:PFunc} {row:List AVal} (s:FuncO h K f row) (c:Chg T h h' K K') (nt:¬ T .ro):FuncO h' K' f row:=by
 obtain ⟨sv,rv,cv,e,r1,r2,r3⟩:=s
 exact ⟨sv,rv,cv,e,r1.keep c nt,r2.keep c nt,r3.keep c nt fun _ _ q=>q.keep c nt⟩
theorem ProgO.keep {p:PProg} {tv gv fv:AVal} (s:ProgO h K p tv gv fv) (c:Chg T h h' K K') (nt:¬ T .ro):ProgO h' K' p tv gv fv :=
 ⟨s.t.keep c nt fun _ _ q=>q.keep c nt,s.g.keep c nt,s.f.keep c nt fun _ _ q=>q.keep c nt⟩
theorem SlK.len {esz:Nat} {α:Type} {R:α→List AVal→Prop} {v:AVal} {l:List α} (s:SlK h K esz R v l) (h':AHeap):lenV h' v=some (.int .i64 l.length,h'):=by
 rcases s with ⟨rfl,rfl⟩ | ⟨id,g,off,vs,ro,rows,rfl,_⟩<;>rfl
theorem SlK.beq {esz:Nat} {α:Type} {R:α→List AVal→Prop} {v:AVal} {l:List α} (s:SlK h K esz R v l):v.beq v=true:=by
 rcases s with ⟨rfl,_⟩ | ⟨id,g,off,vs,ro,rows,rfl,_⟩
 ·rfl
 ·exact AM.beq_sl _ _ _ _ _
theorem SlK.cell {esz:Nat} {α:Type} {R:α→List AVal→Prop} {v:AVal} {l:List α} (s:SlK h K esz R v l):v.cell=true:=by
 rcases s with ⟨rfl,_⟩ | ⟨id,g,off,vs,ro,rows,rfl,_⟩<;>rfl
theorem SlK.ix {esz:Nat} {α:Type} {R:α→List AVal→Prop} {v:AVal} {l:List α} (s:SlK h K esz R v l) {x:Int} {a:α} (hi:at? l x=some a) :
  ∃ id g off vs ro row,(∀ k:IntKind,ixV h esz v (.int k x)=some (.ptr id g off,h))∧h.get id=.cells g ro vs∧id<h.n∧K id=.ro∧off+esz≤vs.length∧(vs.drop off).take esz=row∧row.length=esz∧R a row:=by
 unfold at? at hi
 split at hi
 ·rename_i hx
  have hlt:x.toNat<l.length:=(List.getElem?_eq_some_iff.1 hi).1
  rcases s with ⟨_,rfl⟩ | ⟨id,g,off,vs,ro,rows,rfl,e1,e2,e3,e4,e5,e6,e7,e8⟩
  ·simp at hi
  ·have hr:rows[x.toNat]?=some rows[x.toNat]:=List.getElem?_eq_getElem (by omega)
   obtain ⟨h1,h2⟩:=flatten_at e7 x.toNat _ hr
   have hl:=e7 _ (List.getElem_mem (by omega:x.toNat<rows.length))
   rw [←e5,List.drop_take,List.drop_drop,List.take_take,Nat.min_eq_left (by have:=mul_lt_len (esz:=esz) hlt;omega)] at h2
   refine ⟨id,g,off+x.toNat*esz,vs,ro,rows[x.toNat],?_,e3,e2,e1,?_,h2,hl,e8 x.toNat a _ hi hr⟩
   ·intro k;rw [ix_sl h e3 hx (by omega)]
   ·have:=mul_lt_len (esz:=esz) hlt;omega
 ·cases hi
end
structure GI where
 d:Nat
 K:Nat→Tag
 gs:List (Nat×List Nat)
 th:List (Int×AVal×AVal)
 tv:AVal
 gv:AVal
 fv:AVal
 glv:AVal
 thv:AVal
 gsv:AVal
 trv:AVal
structure FrV (h:AHeap) (K:Nat→Tag) (g k id:Nat) (f:Frame) (sv iv lv vv:AVal) (la:List (Int×AVal)):Prop where
 kid:K id=.fr g k
 lt:id<h.n
 obj:h.get id=.cells 0 false [.int .i64 f.fn,.int .i64 f.pc,.int .u64 f.serial,sv,iv,lv,.int .i64 f.mode,.bool f.ending,vv]
 slots:Ow h K (.slots g k) 1 encP sv f.slots
 into:Ro h K fun h=>SlRd h 1 encK iv f.into
 lates:Ow h K (.lates g k) 2 encL lv la
 args:All2 (fun _ a l=>a.1=l.fn∧Ro h K fun h=>SlRd h 1 encP a.2 l.args) la f.lates
 saved:Ro h K fun h=>SlRd h 1 encP vv f.saved
def FrP (h:AHeap) (K:Nat→Tag) (g k id:Nat) (f:Frame):Prop:=∃ sv iv lv vv la,FrV h K g k id f sv iv lv vv la
structure RtV (h:AHeap) (K:Nat→Tag) (g id:Nat) (fr:List Nat) (r:Routine) (fv:AVal):Prop where
 kid:K id=.rt g
 lt:id<h.n
 obj:h.get id=.cells 0 false [.int .i64 r.state,.int .u64 r.till,.bool r.sleeps,fv,.int .u64 r.serial,.bool r.panics,.int .i64 r.number,.bool r.hit]
 frs:Ow h K (.frs g) 1 encQ fv fr
 all:All2 (fun k i f=>FrP h K g k i f) fr r.frames
def RtP (h:AHeap) (K:Nat→Tag) (g:Nat) (x:Nat×List Nat) (r:Routine):Prop:=∃ fv,RtV h K g x.1 x.2 r fv
def ChP (h:AHeap) (K:Nat→Tag) (n:Nat) (cv:AVal) (c:Option CS):Prop:=match c with
 | none=>cv=.nilp
 | some s=>∃ c F,cv=.ptr c 0 0∧ChanAt h c s F∧∀ j,j∈F→K j=.chan n
structure ThP (h:AHeap) (K:Nat→Tag) (n:Nat) (x:Int×AVal×AVal) (t:Thing):Prop where
 kind:x.1=t.kind
 words:Ow h K (.words n) 1 encP x.2.1 t.words
 ch:ChP h K n x.2.2 t.ch
structure RunP (h:AHeap) (γ:GI) (R:Run):Prop where
 k0:∀ j,γ.K j≠.no→j<h.n
 kd:γ.K γ.d=.d
 obj:h.get γ.d=.cells 0 false [γ.tv,γ.gv,γ.fv,γ.glv,γ.thv,γ.gsv,.int .u64 R.clock,γ.trv,.bool R.ended,.int .i64 R.g]
 prog:ProgO h γ.K R.p γ.tv γ.gv γ.fv
 globals:Ow h γ.K .globals 1 encP γ.glv R.globals
 things:Ow h γ.K .things 3 encT γ.thv γ.th
 thAll:All2 (ThP h γ.K) γ.th R.things
 gs:Ow h γ.K .gs 1 encQ γ.gsv (γ.gs.map (·.1))
 gsAll:All2 (RtP h γ.K) γ.gs R.gs
 trace:Ow h γ.K .trace 3 encE γ.trv R.trace
section
variable {T:Tag→Prop} {h h':AHeap} {K K':Nat→Tag} {g k id:Nat}
theorem FrV.keep {f:Frame} {sv iv lv vv:AVal} {la:List (Int×AVal)} (s:FrV h K g k id f sv iv lv vv la) (c:Chg T h h' K K') (n0:¬ T .ro) (n1:¬ T (.fr g k)) (n2:¬ T (.slots g k)) (n3:¬ T (.lates g k)):FrV h' K' g k id f sv iv lv vv la :=
 ⟨(c.k id s.lt).trans s.kid,Nat.lt_of_lt_of_le s.lt c.n,(c.keep s.lt s.kid n1).trans s.obj,s.slots.keep c n2,s.into.keep c n0,s.lates.keep c n3,s.args.mono fun _ _ _ _ _ q=>⟨q.1,q.2.keep c n0⟩,s.saved.keep c n0⟩
theorem FrP.keep {f:Frame} (s:FrP h K g k id f) (c:Chg T h h' K K') (n0:¬ T .ro) (n1:¬ T (.fr g k)) (n2:¬ T (.slots g k)) (n3:¬ T (.lates g k)):FrP h' K' g k id f:=by
 obtain ⟨sv,iv,lv,vv,la,s⟩:=s;exact ⟨sv,iv,lv,vv,la,s.keep c n0 n1 n2 n3⟩
theorem RtV.keep {fr:List Nat} {r:Routine} {fv:AVal} (s:RtV h K g id fr r fv) (c:Chg T h h' K K') (n0:¬ T .ro) (n1:¬ T (.rt g)) (n2:¬ T (.frs g)) (n3:∀ k,¬ T (.fr g k)∧¬ T (.slots g k)∧¬ T (.lates g k)):RtV h' K' g id fr r fv :=
 ⟨(c.k id s.lt).trans s.kid,Nat.lt_of_lt_of_le s.lt c.n,(c.keep s.lt s.kid n1).trans s.obj,s.frs.keep c n2,s.all.mono fun k _ _ _ _ q=>q.keep c n0 (n3 k).1 (n3 k).2.1 (n3 k).2.2⟩
theorem RtP.keep {x:Nat×List Nat} {r:Routine} (s:RtP h K g x r) (c:Chg T h h' K K') (n0:¬ T .ro) (n1:¬ T (.rt g)) (n2:¬ T (.frs g)) (n3:∀ k,¬ T (.fr g k)∧¬ T (.slots g k)∧¬ T (.lates g k)):RtP h' K' g x r:=by
 obtain ⟨fv,s⟩:=s;exact ⟨fv,s.keep c n0 n1 n2 n3⟩
theorem ChP.keep {n:Nat} {cv:AVal} {s:Option CS} (q:ChP h K n cv s) (c:Chg T h h' K K') (nt:¬ T (.chan n)):ChP h' K' n cv s:=by
 cases s with
 | none=>exact q
 | some s =>
  obtain ⟨i,F,e,a,kF⟩:=q
  exact ⟨i,F,e,a.frame c.n fun j hj=>c.keep (a.lt j hj) (kF j hj) nt,fun j hj=>(c.k j (a.lt j hj)).trans (kF j hj)⟩
theorem ThP.keep {n:Nat} {x:Int×AVal×AVal} {t:Thing} (s:ThP h K n x t) (c:Chg T h h' K K') (n1:¬ T (.words n)) (n2:¬ T (.chan n)):ThP h' K' n x t :=
 ⟨s.kind,s.words.keep c n1,s.ch.keep c n2⟩
theorem RtV.fr {fr:List Nat} {r:Routine} {fv:AVal} (s:RtV h K g id fr r fv) {j:Nat} {f:Frame} (hf:r.frames[j]?=some f):∃ i,fr[j]?=some i∧FrP h K g j i f:=s.all.right hf
variable {γ:GI} {R:Run}
theorem RunP.ltd (P:RunP h γ R):γ.d<h.n:=P.k0 _ (by rw [P.kd];exact Tag.noConfusion)
theorem RunP.rt (P:RunP h γ R) {k:Nat} {r:Routine} (hr:R.gs[k]?=some r):∃ x fv,γ.gs[k]?=some x∧RtV h γ.K k x.1 x.2 r fv:=by
 obtain ⟨x,hx,fv,s⟩:=P.gsAll.right hr;exact ⟨x,fv,hx,s⟩
theorem RunP.th1 (P:RunP h γ R) {k:Nat} {t:Thing} (hr:R.things[k]?=some t):∃ x,γ.th[k]?=some x∧ThP h γ.K k x t:=P.thAll.right hr
theorem RunP.keep (P:RunP h γ R) (c:Chg T h h' γ.K γ.K) (nt:∀ t,t≠.no→¬ T t):RunP h' γ R where
 k0:=fun j hj=>Nat.lt_of_lt_of_le (P.k0 j hj) c.n
 kd:=P.kd
 obj:=(c.keep P.ltd P.kd (nt _ Tag.noConfusion)).trans P.obj
 prog:=P.prog.keep c (nt _ Tag.noConfusion)
 globals:=P.globals.keep c (nt _ Tag.noConfusion)
 things:=P.things.keep c (nt _ Tag.noConfusion)
 thAll:=P.thAll.mono fun n _ _ _ _ q=>q.keep c (nt _ Tag.noConfusion) (nt _ Tag.noConfusion)
 gs:=P.gs.keep c (nt _ Tag.noConfusion)
 gsAll:=P.gsAll.mono fun n _ _ _ _ q=>q.keep c (nt _ Tag.noConfusion) (nt _ Tag.noConfusion) (nt _ Tag.noConfusion) fun k=>⟨nt _ Tag.noConfusion,nt _ Tag.noConfusion,nt _ Tag.noConfusion⟩
 trace:=P.trace.keep c (nt _ Tag.noConfusion)
end
end Go.Proofs.Ytnbnpjhlflcjeaa.Id
namespace Go.Proofs.Ytnbnpjhlflcjeaa.Id
open Go Go.AM Go.Proofs.Ytnbnpjhlflcjeaa.AmGF
open Nat renaming reduceAdd → qA,reduceLeDiff → qB,reduceEqDiff → qC,reduceLT → qE
open Int renaming reduceToNat → qD,reduceEq → qG,reduceLT → qH,reduceLE → qI
structure Nxt (h h':AHeap) (γ γ':GI):Prop where
 c:Chg (·≠.no) h h' γ.K γ'.K
 d:γ'.d=γ.d
 ids:∀ (k:Nat) (x:Nat×List Nat),γ.gs[k]?=some x→∃ l,γ'.gs[k]?=some (x.1,l)
def FrTag (k j:Nat) (t:Tag):Prop:=t=.fr k j∨t=.slots k j∨t=.lates k j
def RtTag (k:Nat) (t:Tag):Prop:=t=.rt k∨t=.frs k∨∃ j,FrTag k j t
section
variable {T:Tag→Prop} {h h' h1:AHeap} {K K':Nat→Tag} {γ γ' γ1:GI} {R:Run}
theorem Nxt.refl (h:AHeap) (γ:GI):Nxt h h γ γ:=⟨Chg.refl _ _ _,rfl,fun k x e=>⟨x.2,e⟩⟩
theorem Nxt.trans (a:Nxt h h1 γ γ1) (b:Nxt h1 h' γ1 γ'):Nxt h h' γ γ':=⟨a.c.trans b.c,b.d.trans a.d,fun k x e=>by
 obtain ⟨l,e1⟩:=a.ids k x e
 obtain ⟨l2,e2⟩:=b.ids k (x.1,l) e1
 exact ⟨l2,e2⟩⟩
theorem FrTag.sub {k j:Nat} {t:Tag} (s:FrTag k j t):RtTag k t:=.inr (.inr ⟨j,s⟩)
theorem FrTag.no {k j:Nat} {t:Tag} (s:FrTag k j t):t≠.no:=by rcases s with rfl | rfl | rfl<;>exact Tag.noConfusion
theorem RtTag.no {k:Nat} {t:Tag} (s:RtTag k t):t≠.no:=by
 rcases s with rfl | rfl | ⟨j,s⟩
 ·exact Tag.noConfusion
 ·exact Tag.noConfusion
 ·exact s.no
theorem RtTag.not {k:Nat} {t:Tag} (hT:∀ t,T t→RtTag k t) (n:¬ RtTag k t):¬ T t:=fun q=>n (hT _ q)
theorem nt_ro {k:Nat}:¬ RtTag k .ro:=by rintro (e | e | ⟨j,e | e | e⟩)<;>cases e
theorem nt_d {k:Nat}:¬ RtTag k .d:=by rintro (e | e | ⟨j,e | e | e⟩)<;>cases e
theorem nt_glob {k:Nat}:¬ RtTag k .globals:=by rintro (e | e | ⟨j,e | e | e⟩)<;>cases e
theorem nt_things {k:Nat}:¬ RtTag k .things:=by rintro (e | e | ⟨j,e | e | e⟩)<;>cases e
theorem nt_gs {k:Nat}:¬ RtTag k .gs:=by rintro (e | e | ⟨j,e | e | e⟩)<;>cases e
theorem nt_trace {k:Nat}:¬ RtTag k .trace:=by rintro (e | e | ⟨j,e | e | e⟩)<;>cases e
theorem nt_words {k n:Nat}:¬ RtTag k (.words n):=by rintro (e | e | ⟨j,e | e | e⟩)<;>cases e
theorem nt_chan {k n:Nat}:¬ RtTag k (.chan n):=by rintro (e | e | ⟨j,e | e | e⟩)<;>cases e
theorem nt_rt {k n:Nat} (e:n≠k):¬ RtTag k (.rt n):=by rintro (q | q | ⟨j,q | q | q⟩)<;>cases q;exact e rfl
theorem nt_frs {k n:Nat} (e:n≠k):¬ RtTag k (.frs n):=by rintro (q | q | ⟨j,q | q | q⟩)<;>cases q;exact e rfl
theorem nt_fr {k n j:Nat} (e:n≠k):¬ RtTag k (.fr n j)∧¬ RtTag k (.slots n j)∧¬ RtTag k (.lates n j):=by
 refine ⟨?_,?_,?_⟩<;>· rintro (q | q | ⟨j,q | q | q⟩)<;>cases q;exact e rfl
theorem ft_ro {k j:Nat}:¬ FrTag k j .ro:=by rintro (e | e | e)<;>cases e
theorem ft_rt {k j n:Nat}:¬ FrTag k j (.rt n):=by rintro (e | e | e)<;>cases e
theorem ft_frs {k j n:Nat}:¬ FrTag k j (.frs n):=by rintro (e | e | e)<;>cases e
theorem ft_fr {k j n:Nat} (e:n≠j):¬ FrTag k j (.fr k n)∧¬ FrTag k j (.slots k n)∧¬ FrTag k j (.lates k n):=by
 refine ⟨?_,?_,?_⟩<;>· rintro (q | q | q)<;>cases q;exact e rfl
theorem RunP.setRt (P:RunP h γ R) (c:Chg T h h' γ.K K') {k:Nat} (hT:∀ t,T t→RtTag k t) (k0:∀ j,K' j≠.no→j<h'.n) {r r':Routine} (hr:R.gs[k]?=some r) {x:Nat×List Nat} (hx:γ.gs[k]?=some x) {fr':List Nat} (s:RtP h' K' k (x.1,fr') r') :
  RunP h' { γ with K:=K',gs:=γ.gs.set k (x.1,fr') } (R.setR k r')∧Nxt h h' γ { γ with K:=K',gs:=γ.gs.set k (x.1,fr') }:=by
 have N:=fun {t} (n:¬ RtTag k t)=>RtTag.not hT n
 refine ⟨⟨k0,(c.k _ P.ltd).trans P.kd,(c.keep P.ltd P.kd (N nt_d)).trans P.obj,P.prog.keep c (N nt_ro),P.globals.keep c (N nt_glob),P.things.keep c (N nt_things),P.thAll.mono fun n _ _ _ _ q=>q.keep c (N nt_words) (N nt_chan),?_,P.gsAll.upd hr s fun n a b hn q=>q.keep c (N nt_ro) (N (nt_rt hn)) (N (nt_frs hn)) fun j=>⟨N (nt_fr hn).1,N (nt_fr hn).2.1,N (nt_fr hn).2.2⟩,P.trace.keep c (N nt_trace)⟩,⟨c.wide fun t q=>(hT t q).no,rfl,fun n y hy=>?_⟩⟩
 ·have e:(γ.gs.set k (x.1,fr')).map (·.1)=γ.gs.map (·.1):=by
   rw [List.map_set]
   exact set_self (by rw [List.getElem?_map,hx];rfl)
  show Ow h' K' .gs 1 encQ γ.gsv ((γ.gs.set k (x.1,fr')).map (·.1))
  rw [e]
  exact P.gs.keep c (N nt_gs)
 ·show ∃ l,(γ.gs.set k (x.1,fr'))[n]?=some (y.1,l)
  by_cases e:k=n
  ·subst e
   rw [hx] at hy;cases hy
   exact ⟨fr',List.getElem?_set_self (List.getElem?_eq_some_iff.1 hx).1⟩
  ·rw [List.getElem?_set_ne e];exact ⟨y.2,hy⟩
theorem RunP.setRow {k:Nat} (P:RunP h γ R) (c:Chg (·=.rt k) h h' γ.K γ.K) {r r':Routine} (hr:R.gs[k]?=some r) {x:Nat×List Nat} (hx:γ.gs[k]?=some x) {fv fv':AVal} (s:RtV h γ.K k x.1 x.2 r fv) {m:Nat} (hm:r'.frames=r.frames.take m) (u:Ow h γ.K (.frs k) 1 encQ fv' (x.2.take m))
  (obj:h'.get x.1=.cells 0 false [.int .i64 r'.state,.int .u64 r'.till,.bool r'.sleeps,fv',.int .u64 r'.serial,.bool r'.panics,.int .i64 r'.number,.bool r'.hit]) :
  RunP h' { γ with gs:=γ.gs.set k (x.1,x.2.take m) } (R.setR k r')∧Nxt h h' γ { γ with gs:=γ.gs.set k (x.1,x.2.take m) } :=
 P.setRt c (fun t q=>.inl q) (fun j hj=>Nat.lt_of_lt_of_le (P.k0 j hj) c.n) hr hx (fr':=x.2.take m) ⟨fv',s.kid,Nat.lt_of_lt_of_le s.lt c.n,obj,u.keep c Tag.noConfusion,by
  rw [hm];exact (s.all.take m).mono fun _ _ _ _ _ q=>q.keep c Tag.noConfusion Tag.noConfusion Tag.noConfusion Tag.noConfusion⟩
theorem RunP.setRow0 {k:Nat} (P:RunP h γ R) (c:Chg (·=.rt k) h h' γ.K γ.K) {r r':Routine} (hr:R.gs[k]?=some r) {x:Nat×List Nat} (hx:γ.gs[k]?=some x) {fv:AVal} (s:RtV h γ.K k x.1 x.2 r fv) (hm:r'.frames=r.frames)
  (obj:h'.get x.1=.cells 0 false [.int .i64 r'.state,.int .u64 r'.till,.bool r'.sleeps,fv,.int .u64 r'.serial,.bool r'.panics,.int .i64 r'.number,.bool r'.hit]) :
  RunP h' γ (R.setR k r')∧Nxt h h' γ γ:=by
 have:=P.setRow (r':=r') c hr hx s (m:=r.frames.length) (by rw [hm,List.take_length]) (fv':=fv) (by rw [←s.all.1,List.take_length];exact s.frs) obj
 rw [←s.all.1,List.take_length,show γ.gs.set k (x.1,x.2)=γ.gs from set_self hx] at this
 exact this
theorem RtV.setF {k id:Nat} {fr:List Nat} {r:Routine} {fv:AVal} (s:RtV h K k id fr r fv) (c:Chg T h h' K K') {j:Nat} (hT:∀ t,T t→FrTag k j t) {f f':Frame} (hf:r.frames[j]?=some f) {i:Nat} (hi:fr[j]?=some i) (q:FrP h' K' k j i f'):RtV h' K' k id fr (r.setF j f') fv:=by
 have N:=fun {t} (n:¬ FrTag k j t) (q:T t)=>n (hT _ q)
 exact ⟨(c.k id s.lt).trans s.kid,Nat.lt_of_lt_of_le s.lt c.n,(c.keep s.lt s.kid (N ft_rt)).trans s.obj,s.frs.keep c (N ft_frs),s.all.updR hi hf q fun n a b hn q=>q.keep c (N ft_ro) (N (ft_fr hn).1) (N (ft_fr hn).2.1) (N (ft_fr hn).2.2)⟩
theorem Run.fr?_some {k j:Nat} {f:Frame} (e:R.fr? k j=some f):∃ r,R.gs[k]?=some r∧r.frames[j]?=some f:=by
 unfold Run.fr? at e
 cases h:R.gs[k]? with
 | none=>rw [h] at e;cases e
 | some r=>rw [h] at e;exact ⟨r,rfl,e⟩
theorem Run.setF_eq {k j:Nat} {f:Frame} {r:Routine} (hr:R.gs[k]?=some r):R.setF k j f=R.setR k (r.setF j f):=by unfold Run.setF;rw [hr]
structure At (h:AHeap) (γ:GI) (R:Run) (k j:Nat) (r:Routine) (f:Frame) (x:Nat×List Nat) (i:Nat):Prop where
 hr:R.gs[k]?=some r
 hf:r.frames[j]?=some f
 hx:γ.gs[k]?=some x
 hi:x.2[j]?=some i
theorem RunP.at (P:RunP h γ R) {k j:Nat} {r:Routine} {f:Frame} (hr:R.gs[k]?=some r) (hf:r.frames[j]?=some f):∃ x fv i sv iv lv vv la,At h γ R k j r f x i∧RtV h γ.K k x.1 x.2 r fv∧FrV h γ.K k j i f sv iv lv vv la:=by
 obtain ⟨x,fv,hx,s⟩:=P.rt hr
 obtain ⟨i,hi,sv,iv,lv,vv,la,q⟩:=s.fr hf
 exact ⟨x,fv,i,sv,iv,lv,vv,la,⟨hr,hf,hx,hi⟩,s,q⟩
theorem RunP.setFr (P:RunP h γ R) (c:Chg T h h' γ.K K') {k j:Nat} (hT:∀ t,T t→FrTag k j t) (k0:∀ j,K' j≠.no→j<h'.n) {r:Routine} {f f':Frame} {x:Nat×List Nat} {i:Nat} (a:At h γ R k j r f x i) (q:FrP h' K' k j i f') :
  RunP h' { γ with K:=K' } (R.setR k (r.setF j f'))∧Nxt h h' γ { γ with K:=K' }:=by
 obtain ⟨x',fv,hx',s⟩:=P.rt a.hr
 obtain rfl:x=x':=by have:=a.hx.symm.trans hx';cases this;rfl
 have:=P.setRt c (fun t q=>(hT t q).sub) k0 a.hr a.hx (fr':=x.2) ⟨fv,s.setF c hT a.hf a.hi q⟩
 have e:γ.gs.set k (x.1,x.2)=γ.gs:=set_self a.hx
 rw [e] at this
 exact this
theorem at?_nat {α:Type} {l:List α} {a:Int} {w:α} (e:at? l a=some w):0≤a∧l[a.toNat]?=some w∧a.toNat<l.length:=by
 unfold at? at e
 split at e
 ·rename_i h;exact ⟨h,e,(List.getElem?_eq_some_iff.1 e).1⟩
 ·cases e
theorem FrV.put {k j i:Nat} {f:Frame} {sv iv lv vv:AVal} {la:List (Int×AVal)} (s:FrV h K k j i f sv iv lv vv la) {a w0:Int} (hi:at? f.slots a=some w0) :
  ∃ id g o vs,K id=.slots k j∧h.get id=.cells g false vs∧id<h.n∧(∀ k:IntKind,ixV h 1 sv (.int k a)=some (.ptr id g o,h))∧vs[o]?=some (.int .u64 w0)∧o+1≤vs.length ∧
   ∀ w,Chg (·=.slots k j) h (h.set id (.cells g false (vs.take o++[.int .u64 w]++vs.drop (o+1)))) K K∧FrV (h.set id (.cells g false (vs.take o++[.int .u64 w]++vs.drop (o+1)))) K k j i { f with slots:=f.slots.set a.toNat w } sv iv lv vv la:=by
 obtain ⟨h0,h1,h2⟩:=at?_nat hi
 obtain ⟨id,g,off,vs,e1,e2,e3,e4,e5,e6,e7,e8⟩:=s.slots.at1 (enc:=fun n=>.int .u64 n) h1
 have ea:((a.toNat:Nat):Int)=a:=by omega
 rw [ea] at e5
 refine ⟨id,g,off+a.toNat,vs,e2,e3,e4,e5,e6,e7,fun w=>?_⟩
 have c:Chg (·=.slots k j) h (h.set id (.cells g false (vs.take (off+a.toNat)++[.int .u64 w]++vs.drop (off+a.toNat+1)))) K K:=(Chg.refl (·=Tag.slots k j) h K).set (fun _=>e2) _
 refine ⟨c,s.kid,by simpa using s.lt,(c.keep s.lt s.kid Tag.noConfusion).trans s.obj,e8 _ w (Nat.le_refl _) (AHeap.get_set_same _ _ _),s.into.keep c Tag.noConfusion,s.lates.keep c Tag.noConfusion,s.args.mono fun _ _ _ _ _ q=>⟨q.1,q.2.keep c Tag.noConfusion⟩,s.saved.keep c Tag.noConfusion⟩
theorem set?_some {α:Type} {l l':List α} {a:Int} {w:α} (e:set? l a w=some l'):l'=l.set a.toNat w∧∃ w0,at? l a=some w0:=by
 unfold set? at e
 split at e
 ·rename_i h
  cases e
  exact ⟨rfl,l[a.toNat]'(by omega),by unfold at?;rw [if_pos h.1];exact List.getElem?_eq_getElem _⟩
 ·cases e
theorem RunP.setD (P:RunP h γ R) (c:Chg (·=.d) h h' γ.K γ.K) {clock:Int} {ended:Bool} {g:Int} (obj:h'.get γ.d=.cells 0 false [γ.tv,γ.gv,γ.fv,γ.glv,γ.thv,γ.gsv,.int .u64 clock,γ.trv,.bool ended,.int .i64 g]) :
  RunP h' γ { R with clock:=clock,ended:=ended,g:=g }∧Nxt h h' γ γ :=
 ⟨⟨fun j hj=>Nat.lt_of_lt_of_le (P.k0 j hj) c.n,P.kd,obj,P.prog.keep c Tag.noConfusion,P.globals.keep c Tag.noConfusion,P.things.keep c Tag.noConfusion,P.thAll.mono fun n _ _ _ _ q=>q.keep c Tag.noConfusion Tag.noConfusion,P.gs.keep c Tag.noConfusion,
  P.gsAll.mono fun n _ _ _ _ q=>q.keep c Tag.noConfusion Tag.noConfusion Tag.noConfusion fun k=>⟨Tag.noConfusion,Tag.noConfusion,Tag.noConfusion⟩,P.trace.keep c Tag.noConfusion⟩,⟨c.wide fun t q=>by rw [q];exact Tag.noConfusion,rfl,fun k x e=>⟨x.2,e⟩⟩⟩
def TT (a b:Tag) (t:Tag):Prop:=t=a∨t=b
theorem TT.no {a b t:Tag} (n1:t≠a) (n2:t≠b):¬ TT a b t:=by rintro (e | e);exact n1 e;exact n2 e
theorem RunP.setTrace (P:RunP h γ R) (c:Chg (TT .d .trace) h h' γ.K K') (k0:∀ j,K' j≠.no→j<h'.n) {trv:AVal} {t:List (Int×Int×Int)} {ended:Bool} (s:Ow h' K' .trace 3 encE trv t)
  (obj:h'.get γ.d=.cells 0 false [γ.tv,γ.gv,γ.fv,γ.glv,γ.thv,γ.gsv,.int .u64 R.clock,trv,.bool ended,.int .i64 R.g]) :
  RunP h' { γ with K:=K',trv:=trv } { R with trace:=t,ended:=ended }∧Nxt h h' γ { γ with K:=K',trv:=trv }:=by
 have N:=fun {t:Tag} (n1:t≠.d) (n2:t≠.trace)=>TT.no n1 n2
 exact ⟨⟨k0,(c.k _ P.ltd).trans P.kd,obj,P.prog.keep c (N Tag.noConfusion Tag.noConfusion),P.globals.keep c (N Tag.noConfusion Tag.noConfusion),P.things.keep c (N Tag.noConfusion Tag.noConfusion),P.thAll.mono fun n _ _ _ _ q=>q.keep c (N Tag.noConfusion Tag.noConfusion) (N Tag.noConfusion Tag.noConfusion),P.gs.keep c (N Tag.noConfusion Tag.noConfusion),
  P.gsAll.mono fun n _ _ _ _ q=>q.keep c (N Tag.noConfusion Tag.noConfusion) (N Tag.noConfusion Tag.noConfusion) (N Tag.noConfusion Tag.noConfusion) fun k=>⟨N Tag.noConfusion Tag.noConfusion,N Tag.noConfusion Tag.noConfusion,N Tag.noConfusion Tag.noConfusion⟩,s⟩,
  ⟨c.wide fun t q=>by rcases q with rfl | rfl<;>exact Tag.noConfusion,rfl,fun k x e=>⟨x.2,e⟩⟩⟩
theorem RunP.addG (P:RunP h γ R) (c:Chg (TT .d .gs) h h' γ.K K') (k0:∀ j,K' j≠.no→j<h'.n) {gsv:AVal} {x:Nat×List Nat} {r:Routine} (s:Ow h' K' .gs 1 encQ gsv (γ.gs.map (·.1)++[x.1])) (q:RtP h' K' R.gs.length x r)
  (obj:h'.get γ.d=.cells 0 false [γ.tv,γ.gv,γ.fv,γ.glv,γ.thv,gsv,.int .u64 R.clock,γ.trv,.bool R.ended,.int .i64 R.g]) :
  RunP h' { γ with K:=K',gsv:=gsv,gs:=γ.gs++[x] } { R with gs:=R.gs++[r] }∧Nxt h h' γ { γ with K:=K',gsv:=gsv,gs:=γ.gs++[x] }:=by
 have N:=fun {t:Tag} (n1:t≠.d) (n2:t≠.gs)=>TT.no n1 n2
 refine ⟨⟨k0,(c.k _ P.ltd).trans P.kd,obj,P.prog.keep c (N Tag.noConfusion Tag.noConfusion),P.globals.keep c (N Tag.noConfusion Tag.noConfusion),P.things.keep c (N Tag.noConfusion Tag.noConfusion),P.thAll.mono fun n _ _ _ _ q=>q.keep c (N Tag.noConfusion Tag.noConfusion) (N Tag.noConfusion Tag.noConfusion),by rw [List.map_append];exact s,
  (P.gsAll.mono fun n _ _ _ _ q=>q.keep c (N Tag.noConfusion Tag.noConfusion) (N Tag.noConfusion Tag.noConfusion) (N Tag.noConfusion Tag.noConfusion) fun k=>⟨N Tag.noConfusion Tag.noConfusion,N Tag.noConfusion Tag.noConfusion,N Tag.noConfusion Tag.noConfusion⟩).snoc (by rw [P.gsAll.1];exact q),P.trace.keep c (N Tag.noConfusion Tag.noConfusion)⟩,
  ⟨c.wide fun t q=>by rcases q with rfl | rfl<;>exact Tag.noConfusion,rfl,fun k y e=>⟨y.2,?_⟩⟩⟩
 show (γ.gs++[x])[k]?=_
 rw [List.getElem?_append_left (List.getElem?_eq_some_iff.1 e).1];exact e
theorem RunP.addT (P:RunP h γ R) (c:Chg (TT .d .things) h h' γ.K K') (k0:∀ j,K' j≠.no→j<h'.n) {thv:AVal} {x:Int×AVal×AVal} {t:Thing} (s:Ow h' K' .things 3 encT thv (γ.th++[x])) (q:ThP h' K' R.things.length x t)
  (obj:h'.get γ.d=.cells 0 false [γ.tv,γ.gv,γ.fv,γ.glv,thv,γ.gsv,.int .u64 R.clock,γ.trv,.bool R.ended,.int .i64 R.g]) :
  RunP h' { γ with K:=K',thv:=thv,th:=γ.th++[x] } { R with things:=R.things++[t] }∧Nxt h h' γ { γ with K:=K',thv:=thv,th:=γ.th++[x] }:=by
 have N:=fun {t:Tag} (n1:t≠.d) (n2:t≠.things)=>TT.no n1 n2
 exact ⟨⟨k0,(c.k _ P.ltd).trans P.kd,obj,P.prog.keep c (N Tag.noConfusion Tag.noConfusion),P.globals.keep c (N Tag.noConfusion Tag.noConfusion),s,(P.thAll.mono fun n _ _ _ _ q=>q.keep c (N Tag.noConfusion Tag.noConfusion) (N Tag.noConfusion Tag.noConfusion)).snoc (by rw [P.thAll.1];exact q),P.gs.keep c (N Tag.noConfusion Tag.noConfusion),
  P.gsAll.mono fun n _ _ _ _ q=>q.keep c (N Tag.noConfusion Tag.noConfusion) (N Tag.noConfusion Tag.noConfusion) (N Tag.noConfusion Tag.noConfusion) fun k=>⟨N Tag.noConfusion Tag.noConfusion,N Tag.noConfusion Tag.noConfusion,N Tag.noConfusion Tag.noConfusion⟩,P.trace.keep c (N Tag.noConfusion Tag.noConfusion)⟩,
  ⟨c.wide fun t q=>by rcases q with rfl | rfl<;>exact Tag.noConfusion,rfl,fun k y e=>⟨y.2,e⟩⟩⟩
theorem RunP.setGl (P:RunP h γ R) (c:Chg (·=.globals) h h' γ.K γ.K) {l:List Int} (s:Ow h' γ.K .globals 1 encP γ.glv l):RunP h' γ { R with globals:=l }∧Nxt h h' γ γ :=
 ⟨⟨fun j hj=>Nat.lt_of_lt_of_le (P.k0 j hj) c.n,P.kd,(c.keep P.ltd P.kd Tag.noConfusion).trans P.obj,P.prog.keep c Tag.noConfusion,s,P.things.keep c Tag.noConfusion,P.thAll.mono fun n _ _ _ _ q=>q.keep c Tag.noConfusion Tag.noConfusion,P.gs.keep c Tag.noConfusion,
  P.gsAll.mono fun n _ _ _ _ q=>q.keep c Tag.noConfusion Tag.noConfusion Tag.noConfusion fun k=>⟨Tag.noConfusion,Tag.noConfusion,Tag.noConfusion⟩,P.trace.keep c Tag.noConfusion⟩,⟨c.wide fun t q=>by rw [q];exact Tag.noConfusion,rfl,fun k x e=>⟨x.2,e⟩⟩⟩
theorem RunP.setTh (P:RunP h γ R) {n:Nat} (c:Chg (TT (.words n) (.chan n)) h h' γ.K K') (k0:∀ j,K' j≠.no→j<h'.n) {x:Int×AVal×AVal} {t t':Thing} (hx:γ.th[n]?=some x) (ht:R.things[n]?=some t) (s:ThP h' K' n x t') :
  RunP h' { γ with K:=K' } { R with things:=R.things.set n t' }∧Nxt h h' γ { γ with K:=K' }:=by
 have N:=fun {t:Tag} (n1:t≠.words n) (n2:t≠.chan n)=>TT.no n1 n2
 exact ⟨⟨k0,(c.k _ P.ltd).trans P.kd,(c.keep P.ltd P.kd (N Tag.noConfusion Tag.noConfusion)).trans P.obj,P.prog.keep c (N Tag.noConfusion Tag.noConfusion),P.globals.keep c (N Tag.noConfusion Tag.noConfusion),P.things.keep c (N Tag.noConfusion Tag.noConfusion),
  P.thAll.updR hx ht s fun m _ _ hm q=>q.keep c (N (fun e=>hm (by cases e;rfl)) Tag.noConfusion) (N Tag.noConfusion fun e=>hm (by cases e;rfl)),P.gs.keep c (N Tag.noConfusion Tag.noConfusion),
  P.gsAll.mono fun n _ _ _ _ q=>q.keep c (N Tag.noConfusion Tag.noConfusion) (N Tag.noConfusion Tag.noConfusion) (N Tag.noConfusion Tag.noConfusion) fun k=>⟨N Tag.noConfusion Tag.noConfusion,N Tag.noConfusion Tag.noConfusion,N Tag.noConfusion Tag.noConfusion⟩,P.trace.keep c (N Tag.noConfusion Tag.noConfusion)⟩,
  ⟨c.wide fun t q=>by rcases q with rfl | rfl<;>exact Tag.noConfusion,rfl,fun k y e=>⟨y.2,e⟩⟩⟩
end
end Go.Proofs.Ytnbnpjhlflcjeaa.Id
namespace Go.Proofs.Ytnbnpjhlflcjeaa.Id
open Go Go.AM Go.Proofs.Ytnbnpjhlflcjeaa.AmGF
open Nat renaming reduceAdd → qA,reduceLeDiff → qB,reduceEqDiff → qC,reduceLT → qE
open Int renaming reduceToNat → qD,reduceEq → qG,reduceLT → qH,reduceLE → qI
section
variable {h h':AHeap} {K:Nat→Tag} {γ:GI} {R:Run}
theorem Ow.ix {α:Type} {enc:α→AVal} {t:Tag} {v:AVal} {l:List α} (s:Ow h K t 1 (fun a=>[enc a]) v l) {x:Int} {a:α} (hi:at? l x=some a) :
  ∃ id g off vs,(∀ k:IntKind,ixV h 1 v (.int k x)=some (.ptr id g off,h))∧h.get id=.cells g false vs∧id<h.n∧vs[off]?=some (enc a):=by
 obtain ⟨h0,h1,h2⟩:=at?_nat hi
 obtain ⟨id,g,off,vs,e1,e2,e3,e4,e5,e6,e7,e8⟩:=s.at1 h1
 have ea:((x.toNat:Nat):Int)=x:=by omega
 rw [ea] at e5
 exact ⟨id,g,_,vs,e5,e3,e4,e6⟩
theorem at?_of {α:Type} {l:List α} {n:Nat} {a:α} (e:l[n]?=some a):at? l (n:Int)=some a:=by
 unfold at?;rw [if_pos (Int.natCast_nonneg _)];exact e
theorem top {k id:Nat} {fr:List Nat} {r:Routine} {fv:AVal} (s:RtV h K k id fr r fv) {i:Nat} (hi:fr[r.frames.length-1]?=some i) (hb:r.frames.length<1000000000):CallP AP 38 [.ptr id 0 0] h fun v h'=>v=.ptr i 0 0∧h'=h:=by
 refine callP (rfl:Tr.get AP 38=some A38) ?_
 generalize hQ:(fun (r:AVal) (h':AHeap)=>_)=Q
 have ho:=s.obj
 have hlt:=s.lt
 have hl:=s.frs.len
 have hn:=(List.getElem?_eq_some_iff.1 hi).1
 have hlen:=s.all.1
 have w:IntKind.i64.wrap ((fr.length:Int)-1)=((r.frames.length-1:Nat):Int):=(wrap64 (by omega) (by omega)).trans (by omega)
 obtain ⟨id2,g,off,vs,x1,x2,x3,x4⟩:=s.frs.ix (enc:=fun id=>.ptr id 0 0) (at?_of hi)
 simp -implicitDefEqProofs (disch:=first|exact dz _|fail) only [↓qJ,qK,qL,qA,qB,qC,qD,qE,↓reduceIte,qG,qH,qI,ho,hl,w,x1,x2,x4]
 subst hQ
 exact ⟨rfl,rfl⟩
set_option maxHeartbeats 2000000 in
theorem tell (P:RunP h γ R) {kind value:Int} {R':Run} (hp:R.tell kind value=some R'):CallP AP 41 [.ptr γ.d 0 0,.int .i64 kind,.int .u64 value] h fun v h'=>∃ γ',RunP h' γ' R'∧Nxt h h' γ γ':=by
 refine callP (rfl:Tr.get AP 41=some A41) ?_
 generalize hQ:(fun (r:AVal) (h':AHeap)=>_)=Q
 have ho:=P.obj
 have hlt:=P.ltd
 have hl:=P.trace.len
 have hbq:=P.trace.beq
 have fin:∀ (t:List (Int×Int×Int)) (v':AVal) (h1:AHeap) (K':Nat→Tag),Ow h1 K' .trace 3 encE v' t→Chg (·=.trace) h h1 γ.K K'→(∀ j,K' j=γ.K j∨(h.n≤j∧j<h1.n)) →
   ∀ (b:Bool) (o:AObj),∃ γ',RunP ((h1.set γ.d o).set γ.d (.cells 0 false [γ.tv,γ.gv,γ.fv,γ.glv,γ.thv,γ.gsv,.int .u64 R.clock,v',.bool b,.int .i64 R.g])) γ' { R with trace:=t,ended:=b }∧Nxt h ((h1.set γ.d o).set γ.d (.cells 0 false [γ.tv,γ.gv,γ.fv,γ.glv,γ.thv,γ.gsv,.int .u64 R.clock,v',.bool b,.int .i64 R.g])) γ γ':=by
  intro t v' h1 K' s c kk b o
  have kd:=(c.k _ P.ltd).trans P.kd
  have c1:=fun oo=>((Chg.refl (·=Tag.d) h1 K').set (i:=γ.d) (fun _=>kd) o).set (i:=γ.d) (fun _=>kd) oo
  have c2:=fun oo=>((c.wide (T1:=TT .d .trace) fun t q=>Or.inr q).set (i:=γ.d) (fun _=>Or.inl P.kd) o).set (i:=γ.d) (fun _=>Or.inl P.kd) oo
  refine ⟨_,P.setTrace (c2 _) (fun j hj=>?_) (s.keep (c1 _) Tag.noConfusion) (AHeap.get_set_same _ _ _)⟩
  rcases kk j with e | e
  ·exact Nat.lt_of_lt_of_le (P.k0 j (by rw [←e];exact hj)) c.n
  ·exact e.2
 unfold Run.tell app? at hp
 by_cases c1:kind≤2
 ·have d1:decide (kind≤2)=true:=decide_eq_true c1
  by_cases c2:(R.trace.length:Int)=4095
  ·have d2:decide ((R.trace.length:Int)=4095)=true:=decide_eq_true c2
   rw [if_pos ⟨c1,c2⟩,if_pos (by omega)] at hp
   cases hp
   simp -implicitDefEqProofs (disch:=first|exact dz _|fail) only [↓qJ,qK,qL,qA,qB,qC,qD,qE,↓reduceIte,qG,qH,qI,ho,hl,d1,d2]
   refine trOp_of (P.trace.app1 (fun _=>rfl) (7,R.g,0) rfl (by omega) fun v' h1 K' s c kk=>?_)
   have ho1:=(c.keep hlt P.kd Tag.noConfusion).trans ho
   have hlt1:=Nat.lt_of_lt_of_le hlt c.n
   have sc:=s.cells
   simp -implicitDefEqProofs (disch:=first|exact dz _|fail) only [↓qJ,qK,qL,qA,qB,qC,qD,qE,↓reduceIte,qG,qH,qI,ho,hl,ho1,sc.1,sc.2,d1,d2,hbq]
   subst hQ
   exact fin _ v' h1 K' s c kk true _
  ·have d2:decide ((R.trace.length:Int)=4095)=false:=decide_eq_false c2
   rw [if_neg (fun q=>c2 q.2)] at hp
   split at hp
   ·rename_i c3
    cases hp
    simp -implicitDefEqProofs (disch:=first|exact dz _|fail) only [↓qJ,qK,qL,qA,qB,qC,qD,qE,↓reduceIte,qG,qH,qI,ho,hl,d1,d2]
    refine trOp_of (P.trace.app1 (fun _=>rfl) (kind,R.g,value) rfl (by omega) fun v' h1 K' s c kk=>?_)
    have ho1:=(c.keep hlt P.kd Tag.noConfusion).trans ho
    have hlt1:=Nat.lt_of_lt_of_le hlt c.n
    have sc:=s.cells
    simp -implicitDefEqProofs (disch:=first|exact dz _|fail) only [↓qJ,qK,qL,qA,qB,qC,qD,qE,↓reduceIte,qG,qH,qI,ho,hl,ho1,sc.1,sc.2,d1,d2,hbq]
    subst hQ
    exact fin _ v' h1 K' s c kk _ _
   ·cases hp
 ·have d1:decide (kind≤2)=false:=decide_eq_false c1
  rw [if_neg (fun q=>c1 q.1)] at hp
  split at hp
  ·rename_i c3
   cases hp
   simp -implicitDefEqProofs (disch:=first|exact dz _|fail) only [↓qJ,qK,qL,qA,qB,qC,qD,qE,↓reduceIte,qG,qH,qI,ho,hl,d1]
   refine trOp_of (P.trace.app1 (fun _=>rfl) (kind,R.g,value) rfl (by omega) fun v' h1 K' s c kk=>?_)
   have ho1:=(c.keep hlt P.kd Tag.noConfusion).trans ho
   have hlt1:=Nat.lt_of_lt_of_le hlt c.n
   have sc:=s.cells
   simp -implicitDefEqProofs (disch:=first|exact dz _|fail) only [↓qJ,qK,qL,qA,qB,qC,qD,qE,↓reduceIte,qG,qH,qI,ho,hl,ho1,sc.1,sc.2,d1,hbq]
   subst hQ
   exact fin _ v' h1 K' s c kk _ _
  ·cases hp
end
end Go.Proofs.Ytnbnpjhlflcjeaa.Id
namespace Go.Proofs.Ytnbnpjhlflcjeaa.Id
open Go Go.AM Go.Proofs.Ytnbnpjhlflcjeaa.AmGF
open Nat renaming reduceAdd → qA,reduceLeDiff → qB,reduceEqDiff → qC,reduceLT → qE
open Int renaming reduceToNat → qD,reduceEq → qG,reduceLT → qH,reduceLE → qI
theorem row_at {vs row:List AVal} {off n:Nat} (e:(vs.drop off).take n=row) {i:Nat} (hi:i<n):vs[off+i]?=row[i]?:=by
 rw [←e,List.getElem?_take,if_pos hi,List.getElem?_drop]
theorem valsL_at {s:List Int}:∀ {l ws:List Int},valsL s l=some ws→ws.length=l.length∧∀ (i:Nat) (n:Int),l[i]?=some n→∃ w,at? s n=some w∧ws[i]?=some w
 | [],ws,e=>by simp [valsL] at e;subst e;exact ⟨rfl,fun i n h=>by simp at h⟩
 | n::l,ws,e=>by
  simp only [valsL,Option.bind_eq_some_iff,Option.map_eq_some_iff] at e
  obtain ⟨w,hw,t,ht,rfl⟩:=e
  obtain ⟨h1,h2⟩:=valsL_at ht
  refine ⟨by simp [h1],fun i m hi=>?_⟩
  cases i with
  | zero=>simp at hi;subst hi;exact ⟨w,hw,rfl⟩
  | succ i=>simp at hi;obtain ⟨v,a,b⟩:=h2 i m hi;exact ⟨v,a,by simpa using b⟩
theorem SlRd.ixI {h:AHeap} {enc:Int→AVal} {v:AVal} {l:List Int} (s:SlRd h 1 (fun a=>[enc a]) v l) {x w:Int} (hi:at? l x=some w) :
  ∃ id g off vs ro,ixV h 1 v (.int .i64 x)=some (.ptr id g off,h)∧h.get id=.cells g ro vs∧id<h.n∧vs[off]?=some (enc w):=by
 obtain ⟨h0,h1,h2⟩:=at?_nat hi
 obtain ⟨id,g,off,vs,ro,a,b,c,d⟩:=s.ix1 h1 .i64
 have ea:((x.toNat:Nat):Int)=x:=by omega
 rw [ea] at a
 exact ⟨id,g,off,vs,ro,a,b,c,d⟩
set_option maxHeartbeats 2000000 in
theorem values {h:AHeap} {sv lv:AVal} {s l ws:List Int} (S:SlRd h 1 encP sv s) (L:SlRd h 1 encK lv l) (hp:vals s l=some ws) :
  CallP AP 89 [sv,lv] h fun v h'=>∃ F,HFrame h h' [] F∧SlX h' 1 encP v ws F:=by
 refine callP (rfl:Tr.get AP 89=some A89) ?_
 generalize hQ:(fun (r:AVal) (h':AHeap)=>_)=Q
 unfold vals at hp
 split at hp
 ·rename_i hb
  obtain ⟨hl,hat⟩:=valsL_at hp
  simp -implicitDefEqProofs (disch:=first|exact dz _|fail) only [↓qJ,qK,qL,qA,qB,qC,qD,qE,↓reduceIte,qG,qH,qI,L.len]
  refine loopI_of (fun k e h'=>∃ (i:Nat) (v:AVal) (F:List Nat),k+i=l.length∧e.val 0=sv∧e.val 5=v∧e.val 8=lv∧e.val 9=.int .i64 (l.length:Int)∧e.val 10=.int .i64 (i:Int)∧HFrame h h' [] F∧SlX h' 1 encP v (ws.take i) F) l.length ?_ ?_
  ·refine ⟨0,.nils,[],by omega,?_,?_,?_,?_,?_,HFrame.refl (by simp),SlX.nil⟩<;>(simp -implicitDefEqProofs (disch:=first|exact dz _|fail) only [↓qJ,qK,qL,qA,qB,qC,qD,qE,↓reduceIte,qG,qH,qI])<;>rfl
  ·rintro k e h1 ⟨i,v,F,hk,y0,y5,y8,y9,y10,F1,X⟩
   simp -implicitDefEqProofs (disch:=first|exact dz _|fail) only [↓qJ,qK,qL,qA,qB,qC,qD,qE,↓reduceIte,qG,qH,qI,y9,y10]
   refine cI_bool (fun hc=>?_) (fun hc=>?_)
   ·simp only [decide_eq_true_eq] at hc
    obtain ⟨n,hn⟩:∃ n,l[i]?=some n:=⟨_,List.getElem?_eq_getElem (by omega)⟩
    obtain ⟨w,hw,hwi⟩:=hat i n hn
    have k1:∀ j,j<h.n→(∃ x,h.get j=x)→h1.get j=h.get j:=fun j hj _=>F1.get j hj (by simp)
    obtain ⟨id,g,off,vs,ro,a1,a2,a3,a4⟩:=(L.mono F1.n k1).ix1 hn .i64
    obtain ⟨id',g',off',vs',ro',b1,b2,b3,b4⟩:=SlRd.ixI (enc:=fun n=>.int .u64 n) (S.mono F1.n k1) hw
    have wi:IntKind.i64.wrap ((i:Int)+1)=((i+1:Nat):Int):=(wrap64 (by omega) (by omega)).trans (by omega)
    simp -implicitDefEqProofs (disch:=first|exact dz _|fail) only [↓qJ,qK,qL,qA,qB,qC,qD,qE,↓reduceIte,qG,qH,qI,y0,y5,y8,y9,y10,a1,a2,a4,b1,b2,b4]
    refine opI_of (X.app1 (fun _=>rfl) w rfl (by rw [List.length_take];omega) fun v' h2 F' s' f=>?_)
    simp -implicitDefEqProofs (disch:=first|exact dz _|fail) only [↓qJ,qK,qL,qA,qB,qC,qD,qE,↓reduceIte,qG,qH,qI,y0,y5,y8,y9,y10,wi]
    exact ⟨k-1,by omega,i+1,v',F',by omega,rfl,rfl,⟨Nat.le_trans F1.n f.n,f.g.trans F1.g,fun j hj _=>(f.get j (Nat.lt_of_lt_of_le hj F1.n) fun hm=>by
     rcases F1.new j hm with q | q
     ·simp at q
     ·omega).trans (F1.get j hj (by simp)),fun j hj=>.inr (by
     rcases f.new j hj with q | q
     ·rcases F1.new j q with q | q
      ·simp at q
      ·exact q
     ·exact Nat.le_trans F1.n q),f.lt⟩,by rw [take_succ_of hwi];exact s'⟩
   ·simp only [decide_eq_false_iff_not] at hc
    simp -implicitDefEqProofs (disch:=first|exact dz _|fail) only [↓qJ,qK,qL,qA,qB,qC,qD,qE,↓reduceIte,qG,qH,qI,y5]
    subst hQ
    refine ⟨F,F1,?_⟩
    rw [List.take_of_length_le (by omega)] at X
    exact X
 ·cases hp
def LooseF (h:AHeap) (n0 i:Nat) (f:Frame):Prop:=∃ sv Fs,n0≤i∧i<h.n∧h.get i=.cells 0 false [.int .i64 f.fn,.int .i64 f.pc,.int .u64 f.serial,sv,.nils,.nils,.int .i64 f.mode,.bool f.ending,.nils]∧SlX h 1 encP sv f.slots Fs∧∀ j,j∈Fs→n0≤j∧j≠i
theorem flatP (l:List Int):l.flatMap encP=l.map fun n=>.int .u64 n:=by induction l<;>simp_all
theorem cp_new {h:AHeap} {id n:Nat} {av:AVal} {args:List Int} (hid:id<h.n) (hg:h.get id=.cells 0 false (List.replicate n (.int .u64 0))) (A:SlRd h 1 encP av args) :
  cpV h 1 (.sl id 0 0 n 1) av=some (.int .i64 (min args.length n:Nat),h.set id (.cells 0 false ((copyW n args).map fun n=>.int .u64 n))):=by
 have hm:(args.flatMap encP).take (min args.length n*1)=(args.take n).map fun n=>.int .u64 n:=by
  rw [flatP,Nat.mul_one,List.map_take]
  rcases Nat.le_total args.length n with c | c
  ·rw [Nat.min_eq_left c,List.take_of_length_le (by simp),List.take_of_length_le (by simpa using c)]
  ·rw [Nat.min_eq_right c]
 simp only [cpV,hid,and_self,if_true,A.elems,Option.bind_some]
 rw [hm]
 simp only [AHeap.wr,hg]
 rw [if_pos]
 ·simp only [Option.map_some,List.length_map,List.take_zero,List.nil_append,Nat.zero_add,List.drop_replicate,copyW,List.map_append,List.map_replicate,List.length_take]
  congr 5
  congr 1
  omega
 ·refine ⟨trivial,?_,?_⟩
  ·simp only [List.length_map,List.length_take,List.length_replicate];omega
  ·rw [List.all_eq_true];intro x hx
   obtain ⟨n,_,rfl⟩:=List.mem_map.1 hx
   rfl
theorem ms_u64 (h:AHeap) (n:Nat) (hb:n<1000000):msV h 1 8 [.int .u64 0] (.int .i64 (n:Int))=some (.sl h.n 0 0 n 1,h.push (.cells 0 false (List.replicate n (.int .u64 0)))):=by
 have e:(List.range (n*1)).map (fun i=>[AVal.int .u64 0].getD (i%1) .undef)=List.replicate n (.int .u64 0):=by
  rw [Nat.mul_one,List.eq_replicate_iff]
  refine ⟨by simp,fun b hb=>?_⟩
  obtain ⟨i,_,rfl⟩:=List.mem_map.1 hb
  simp [Nat.mod_one]
 simp only [msV,e,Int.toNat_natCast]
 rw [if_pos ⟨Int.natCast_nonneg _,by omega,by omega⟩]
theorem copyW_len (n:Nat) (args:List Int):(copyW n args).length=n:=by
 unfold copyW;simp only [List.length_append,List.length_take,List.length_replicate];omega
section
variable {h h':AHeap} {K:Nat→Tag} {γ:GI} {R:Run}
set_option maxHeartbeats 2000000 in
theorem frame (P:RunP h γ R) {fn:Int} {args:List Int} {av:AVal} (A:SlRd h 1 encP av args) {f:Frame} (hp:newF R.p fn args=some f):CallP AP 58 [.ptr γ.d 0 0,.int .i64 fn,av] h fun v h'=>∃ i,v=.ptr i 0 0∧HFrame h h' [] []∧LooseF h' h.n i f:=by
 refine callP (rfl:Tr.get AP 58=some A58) ?_
 generalize hQ:(fun (r:AVal) (h':AHeap)=>_)=Q
 simp only [newF,Option.bind_eq_some_iff] at hp
 obtain ⟨F,hF,hp⟩:=hp
 split at hp
 ·rename_i hb
  cases hp
  have ho:=P.obj
  have hlt:=P.ltd
  obtain ⟨id,g,off,vs,ro,row,x1,x2,x3,x4,x5,x6,x7,sv,rv,cv,rfl,s1,s2,s3⟩:=P.prog.f.ix hF
  have y1:vs[off+1]?=some sv:=row_at x6 (by omega)
  have hs:=s1.now.len
  have ms:=fun h=>ms_u64 h F.slots.length hb
  have A1:=A.mono (h':=h.push (.cells 0 false (List.replicate F.slots.length (.int .u64 0)))) (by simp) fun j hj _=>AHeap.get_push_ne _ _ (by omega)
  have A2:=A1.mono (h':=(h.push (.cells 0 false (List.replicate F.slots.length (.int .u64 0)))).push (.cells 0 false [.int .i64 fn,.int .i64 0,.int .u64 0,.sl h.n 0 0 F.slots.length 1,.nils,.nils,.int .i64 0,.bool false,.nils])) (by simp) fun j hj _=>AHeap.get_push_ne _ _ (by omega)
  have cp:=cp_new (h:=(h.push (.cells 0 false (List.replicate F.slots.length (.int .u64 0)))).push (.cells 0 false [.int .i64 fn,.int .i64 0,.int .u64 0,.sl h.n 0 0 F.slots.length 1,.nils,.nils,.int .i64 0,.bool false,.nils])) (id:=h.n) (n:=F.slots.length) (by simp;omega) (by rw [AHeap.get_push_ne _ _ (by simp)];exact AHeap.get_push_same _ _) A2
  simp -implicitDefEqProofs (disch:=first|exact dz _|fail) only [↓qJ,qK,qL,qA,qB,qC,qD,qE,↓reduceIte,qG,qH,qI,ho,x1,x2,y1,hs,ms,cp]
  subst hQ
  have f0:=(((HFrame.refl (h:=h) (F:=[]) (by simp)).pushTmp (.cells 0 false (List.replicate F.slots.length (.int .u64 0)))).pushTmp (.cells 0 false [.int .i64 fn,.int .i64 0,.int .u64 0,.sl h.n 0 0 F.slots.length 1,.nils,.nils,.int .i64 0,.bool false,.nils])).setTmp (i:=h.n) (Nat.le_refl _) (.cells 0 false ((copyW F.slots.length args).map fun n=>.int .u64 n))
  refine ⟨_,rfl,f0,.sl h.n 0 0 F.slots.length 1,[h.n],by simp,by simp,?_,.inr ⟨h.n,0,0,_,by rw [copyW_len],AHeap.get_set_same _ _ _,by simp;omega,by simp [copyW_len],?_,rfl⟩,fun j hj=>?_⟩
  ·rw [AHeap.get_set_ne _ _ (by simp),]
   exact AHeap.get_push_same _ _
  ·rw [List.drop_zero,List.take_of_length_le (by simp),flatP]
  ·simp at hj;subst hj;exact ⟨Nat.le_refl _,by simp⟩
 ·cases hp
set_option maxHeartbeats 2000000 in
theorem push0 {rid i:Nat} {s:Int} {fv a0 a1 a2 a5 a6 a7 b0 b1 b2 b3 b4 b5 b6 b7 b8:AVal} {fr:List Nat} {F:List Nat} (hr:h.get rid=.cells 0 false [a0,a1,a2,fv,.int .u64 s,a5,a6,a7]) (hi:h.get i=.cells 0 false [b0,b1,b2,b3,b4,b5,b6,b7,b8]) (lr:rid<h.n) (li:i<h.n) (ne:i≠rid)
  (S:SlX h 1 encQ fv fr F) (nr:rid ∉ F) (ni:i ∉ F) (hb:fr.length<1000000) :
  CallP AP 57 [.ptr rid 0 0,.ptr i 0 0] h fun v h'=>∃ fv' F',SlX h' 1 encQ fv' (fr++[i]) F'∧HFrame h h' (rid::i::F) (rid::i::F')∧h'.get rid=.cells 0 false [a0,a1,a2,fv',.int .u64 (u64 (s+1)),a5,a6,a7]∧h'.get i=.cells 0 false [b0,b1,.int .u64 (u64 (s+1)),b3,b4,b5,b6,b7,b8]∧rid ∉ F'∧i ∉ F':=by
 refine callP (rfl:Tr.get AP 57=some A57) ?_
 generalize hQ:(fun (r:AVal) (h':AHeap)=>_)=Q
 have c1:=S.cells
 simp -implicitDefEqProofs (disch:=first|exact dz _|fail) only [↓qJ,qK,qL,qA,qB,qC,qD,qE,↓reduceIte,qG,qH,qI,hr,hi]
 have hF:∀ j,j∈rid::i::F→j<h.n:=fun j hj=>by
  simp only [List.mem_cons] at hj
  rcases hj with rfl | rfl | hj
  ·exact lr
  ·exact li
  ·exact S.lt j hj
 have f1:=HFrame.set h rid (.cells 0 false [a0,a1,a2,fv,.int .u64 (IntKind.u64.wrap (s+1)),a5,a6,a7]) (F:=rid::i::F) (by simp) hF
 have f2:=f1.trans (HFrame.set (h.set rid (.cells 0 false [a0,a1,a2,fv,.int .u64 (IntKind.u64.wrap (s+1)),a5,a6,a7])) i (.cells 0 false [b0,b1,.int .u64 (IntKind.u64.wrap (s+1)),b3,b4,b5,b6,b7,b8]) (F:=rid::i::F) (by simp) (by simpa using hF))
 have S2:SlX ((h.set rid (.cells 0 false [a0,a1,a2,fv,.int .u64 (IntKind.u64.wrap (s+1)),a5,a6,a7])).set i (.cells 0 false [b0,b1,.int .u64 (IntKind.u64.wrap (s+1)),b3,b4,b5,b6,b7,b8])) 1 encQ fv fr F:=S.frame f2.n fun j hj=>by
  rw [AHeap.get_set_ne _ _ (by rintro rfl;exact ni hj),AHeap.get_set_ne _ _ (by rintro rfl;exact nr hj)]
 have gi:((h.set rid (.cells 0 false [a0,a1,a2,fv,.int .u64 (IntKind.u64.wrap (s+1)),a5,a6,a7])).set i (.cells 0 false [b0,b1,.int .u64 (IntKind.u64.wrap (s+1)),b3,b4,b5,b6,b7,b8])).get i=.cells 0 false [b0,b1,.int .u64 (IntKind.u64.wrap (s+1)),b3,b4,b5,b6,b7,b8]:=AHeap.get_set_same _ _ _
 have gr:((h.set rid (.cells 0 false [a0,a1,a2,fv,.int .u64 (IntKind.u64.wrap (s+1)),a5,a6,a7])).set i (.cells 0 false [b0,b1,.int .u64 (IntKind.u64.wrap (s+1)),b3,b4,b5,b6,b7,b8])).get rid=.cells 0 false [a0,a1,a2,fv,.int .u64 (IntKind.u64.wrap (s+1)),a5,a6,a7]:=by rw [AHeap.get_set_ne _ _ (Ne.symm ne)];exact AHeap.get_set_same _ _ _
 have ln:((h.set rid (.cells 0 false [a0,a1,a2,fv,.int .u64 (IntKind.u64.wrap (s+1)),a5,a6,a7])).set i (.cells 0 false [b0,b1,.int .u64 (IntKind.u64.wrap (s+1)),b3,b4,b5,b6,b7,b8])).n=h.n:=rfl
 generalize (h.set rid (.cells 0 false [a0,a1,a2,fv,.int .u64 (IntKind.u64.wrap (s+1)),a5,a6,a7])).set i (.cells 0 false [b0,b1,.int .u64 (IntKind.u64.wrap (s+1)),b3,b4,b5,b6,b7,b8])=h2 at *
 rw [←ln]
 refine opI_of (S2.app1 (fun _=>rfl) i rfl (by omega) fun v' h3 F' s' f=>?_)
 have gr3:=(f.get rid (by omega) nr).trans gr
 have gi3:=(f.get i (by omega) ni).trans gi
 have n3:=f.n
 have l3:rid<h3.n:=by omega
 have sc:=s'.cells
 have nr':rid ∉ F':=f.out nr (by omega)
 have ni':i ∉ F':=f.out ni (by omega)
 simp -implicitDefEqProofs (disch:=first|exact dz _|fail) only [↓qJ,qK,qL,qA,qB,qC,qD,qE,↓reduceIte,qG,qH,qI,gr3,sc.1,sc.2]
 subst hQ
 have f3:HFrame h2 h3 (rid::i::F) (rid::i::F'):=f.wide (fun j hj=>by simp [hj]) (fun j hj=>by
  simp only [List.mem_cons] at hj
  rcases hj with rfl | rfl | hj
  ·exact .inr (by simp)
  ·exact .inr (by simp)
  ·exact .inl hj) (fun j hj=>by have:=hF j hj;omega)
 refine ⟨v',F',s'.frame (Nat.le_refl _) fun j hj=>AHeap.get_set_ne _ _ (by rintro rfl;exact nr' hj),(f2.trans f3).trans (HFrame.set h3 rid _ (by simp) f3.lt),AHeap.get_set_same _ _ _,by rw [AHeap.get_set_ne _ _ ne];exact gi3,nr',ni'⟩
end
end Go.Proofs.Ytnbnpjhlflcjeaa.Id
namespace Go.Proofs.Ytnbnpjhlflcjeaa.Id
open Go Go.AM Go.Proofs.Ytnbnpjhlflcjeaa.AmGF
open Nat renaming reduceAdd → qA,reduceLeDiff → qB,reduceEqDiff → qC,reduceLT → qE
open Int renaming reduceToNat → qD,reduceEq → qG,reduceLT → qH,reduceLE → qI
structure LooseV (h:AHeap) (n0 i:Nat) (f:Frame) (sv iv:AVal) (Fs:List Nat):Prop where
 ge:n0≤i
 lt:i<h.n
 obj:h.get i=.cells 0 false [.int .i64 f.fn,.int .i64 f.pc,.int .u64 f.serial,sv,iv,.nils,.int .i64 f.mode,.bool f.ending,.nils]
 slots:SlX h 1 encP sv f.slots Fs
 F:∀ j,j∈Fs→n0≤j∧j≠i
 lates:f.lates=[]
 saved:f.saved=[]
section
variable {h0 h h':AHeap} {K:Nat→Tag} {γ:GI} {R:Run}
theorem Chg.tmp (h:AHeap) (K:Nat→Tag) (o o':AObj):Chg (fun _=>False) h ((h.push o).set h.n o') K K:=((Chg.refl _ h K).push o).set (fun q=>absurd q (Nat.lt_irrefl _)) o'
theorem Chg.f (c:Chg (fun _=>False) h h' K K) (T:Tag→Prop):Chg T h h' K K:=c.wide fun _ q=>q.elim
theorem RunP.tmp (P:RunP h γ R) (c:Chg (fun _=>False) h h' γ.K γ.K):RunP h' γ R:=P.keep c fun _ _ q=>q
theorem pushR (P:RunP h0 γ R) (c:HFrame h0 h [] []) {k i:Nat} {f:Frame} {sv iv:AVal} {Fs:List Nat} (L:LooseV h h0.n i f sv iv Fs) (hI:Ro h0 γ.K fun h=>SlRd h 1 encK iv f.into) {r r':Routine} (hr:R.gs[k]?=some r) {x:Nat×List Nat} (hx:γ.gs[k]?=some x) (hp:r.push f=some r') :
  CallP AP 57 [.ptr x.1 0 0,.ptr i 0 0] h fun v h'=>∃ γ',RunP h' γ' (R.setR k r')∧Nxt h0 h' γ γ':=by
 unfold Routine.push at hp
 split at hp
 ·rename_i hb
  cases hp
  obtain ⟨x2,fv,hx2,s⟩:=P.rt hr
  obtain rfl:x=x2:=by have:=hx.symm.trans hx2;cases this;rfl
  obtain ⟨F,S,kF⟩:=s.frs
  have hK:∀ j,h0.n≤j→γ.K j=.no:=fun j hj=>Decidable.byContradiction fun q=>by have:=P.k0 j q;omega
  have hlt:=s.lt
  have hno:∀ j,j∈F→j<h0.n:=S.lt
  have S1:SlX h 1 encQ fv x.2 F:=S.frame c.n fun j hj=>c.get j (hno j hj) (by simp)
  have hlen:=s.all.1
  refine CallP.mono (push0 ((c.get _ hlt (by simp)).trans s.obj) L.obj (Nat.lt_of_lt_of_le hlt c.n) L.lt (by have:=L.ge;omega) S1 (fun hm=>by have:=kF _ hm;rw [s.kid] at this;cases this) (fun hm=>by have:=hno _ hm;have:=L.ge;omega) (by omega)) ?_
  rintro v h' ⟨fv',F',S',f',g1,g2,n1,n2⟩
  obtain ⟨K',hK'⟩:∃ K':Nat→Tag,K'=fun j=>if j=i then Tag.fr k r.frames.length else if j∈Fs then Tag.slots k r.frames.length else if h.n≤j∧j∈F' then Tag.frs k else γ.K j:=⟨_,rfl⟩
  have Ko:∀ j,j<h0.n→K' j=γ.K j:=fun j hj=>by
   have:=c.n
   rw [hK'];show (if _ then _ else _)=_
   rw [if_neg (by have:=L.ge;omega),if_neg (fun hm=>by have:=(L.F j hm).1;omega),if_neg (by omega)]
  have ch:Chg (TT (.rt k) (.frs k)) h0 h' γ.K K':=⟨Nat.le_trans c.n f'.n,f'.g.trans c.g,Ko,fun j hj t=>(f'.get j (Nat.lt_of_lt_of_le hj c.n) fun hm=>by
   simp only [List.mem_cons] at hm
   rcases hm with rfl | rfl | hm
   ·exact t (.inl s.kid)
   ·have:=L.ge;omega
   ·exact t (.inr (kF j hm))).trans (c.get j hj (by simp))⟩
  have kF':∀ j,j∈F'→K' j=.frs k:=fun j hj=>by
   rcases f'.new j (by simp [hj]) with q | q
   ·simp only [List.mem_cons] at q
    rcases q with rfl | rfl | q
    ·exact absurd hj n1
    ·exact absurd hj n2
    ·rw [Ko j (hno j q)];exact kF j q
   ·rw [hK'];show (if _ then _ else _)=_
    rw [if_neg (by have:=L.lt;omega),if_neg (fun hm=>by have:=L.slots.lt j hm;omega),if_pos ⟨q,hj⟩]
  refine ⟨_,P.setRt ch (fun t q=>by rcases q with rfl | rfl;exact .inl rfl;exact .inr (.inl rfl)) (fun j hj=>?_) hr hx (fr':=x.2++[i]) ⟨fv',?_⟩⟩
  ·by_cases e1:j=i
   ·subst e1;exact Nat.lt_of_lt_of_le L.lt f'.n
   ·by_cases e2:j∈Fs
    ·exact Nat.lt_of_lt_of_le (L.slots.lt j e2) f'.n
    ·by_cases e3:h.n≤j∧j∈F'
     ·exact S'.lt j e3.2
     ·rw [hK'] at hj
      simp only [if_neg e1,if_neg e2,if_neg e3] at hj
      have:=P.k0 j hj
      exact Nat.lt_of_lt_of_le this (Nat.le_trans c.n f'.n)
  ·have nfr:¬ TT (.rt k) (.frs k) .ro:=TT.no Tag.noConfusion Tag.noConfusion
   refine ⟨(Ko _ hlt).trans s.kid,Nat.lt_of_lt_of_le hlt ch.n,g1,⟨F',S',kF'⟩,(s.all.mono fun j _ _ _ _ q=>q.keep ch nfr (TT.no Tag.noConfusion Tag.noConfusion) (TT.no Tag.noConfusion Tag.noConfusion) (TT.no Tag.noConfusion Tag.noConfusion)).snoc ?_⟩
   rw [hlen]
   refine ⟨sv,iv,.nils,.nils,[],?_,Nat.lt_of_lt_of_le L.lt f'.n,g2,⟨Fs,L.slots.frame f'.n fun j hj=>f'.get j (L.slots.lt j hj) fun hm=>?_,fun j hj=>?_⟩,hI.keep ch nfr,Ow.nil,by rw [L.lates];exact All2.nil,by show Ro _ _ fun h=>SlRd h 1 encP _ f.saved;rw [L.saved];exact Ro.nil⟩
   ·rw [hK'];exact if_pos rfl
   ·simp only [List.mem_cons] at hm
    obtain ⟨q1,q2⟩:=L.F j hj
    rcases hm with rfl | rfl | hm
    ·omega
    ·exact q2 rfl
    ·have:=hno j hm;omega
   ·rw [hK'];show (if _ then _ else _)=_
    rw [if_neg (L.F j hj).2,if_pos hj]
 ·cases hp
theorem Nxt.tmp (c:Chg (fun _=>False) h h' γ.K γ.K):Nxt h h' γ γ:=⟨c.f _,rfl,fun k x e=>⟨x.2,e⟩⟩
theorem setR_setR (R:Run) (k:Nat) (r r':Routine):(R.setR k r).setR k r'=R.setR k r':=by
 unfold Run.setR;simp only [List.set_set]
theorem lim_lt {α:Type} {l:List α} {n:Nat} {u:Unit} (e:lim l n=some u):l.length<n:=by
 unfold lim at e;split at e
 ·assumption
 ·cases e
theorem getLast_at {α:Type} {l:List α} {a:α} (e:l.getLast?=some a):l[l.length-1]?=some a∧0<l.length:=by
 rw [List.getLast?_eq_getElem?] at e
 exact ⟨e,by have:=(List.getElem?_eq_some_iff.1 e).1;omega⟩
set_option maxHeartbeats 4000000 in
theorem run (P:RunP h γ R) {k j:Nat} {mode:Int} {R':Run} (hp:R.run k j mode=some R') {r:Routine} {f:Frame} {x:Nat×List Nat} {i:Nat} (a:At h γ R k j r f x i) :
  CallP AP 84 [.ptr γ.d 0 0,.ptr x.1 0 0,.ptr i 0 0,.int .i64 mode] h fun v h'=>∃ γ',RunP h' γ' R'∧Nxt h h' γ γ':=by
 refine callP (rfl:Tr.get AP 84=some A84) ?_
 generalize hQ:(fun (r:AVal) (h':AHeap)=>_)=Q
 obtain ⟨x',fv,i',sv,iv,lv,vv,la,a',s,q⟩:=P.at a.hr a.hf
 obtain rfl:x=x':=by have:=a.hx.symm.trans a'.hx;cases this;rfl
 obtain rfl:i=i':=by have:=a.hi.symm.trans a'.hi;cases this;rfl
 unfold Run.run at hp
 rw [a.hr] at hp
 simp only [Option.bind_some,a.hf,Option.bind_eq_some_iff,Option.map_eq_some_iff] at hp
 obtain ⟨_,hb,l,hl,g,hg,r',hpu,rfl⟩:=hp
 have hb:=lim_lt hb
 obtain ⟨hl1,hl2⟩:=getLast_at hl
 obtain ⟨⟨l1,av⟩,hla,e1,hA⟩:=q.args.right hl1
 simp only at e1;subst e1
 have ho:=q.obj
 have lenl:=q.lates.len
 have hll:=q.args.1
 have w:IntKind.i64.wrap ((la.length:Int)-1)=((f.lates.length-1:Nat):Int):=(wrap64 (by omega) (by omega)).trans (by omega)
 obtain ⟨id,gn,off,vs,ro,x1,x2,x3,x4,x5⟩:=q.lates.rd.ix (fun _=>rfl) hla .i64
 have x4':off+2≤vs.length:=x4
 have c1:=Chg.tmp h γ.K (.cells 0 false [.int .i64 0,.nils]) (.cells 0 false (encL (l.fn,av)))
 have P1:=P.tmp c1
 have q1:=q.keep c1 (fun q=>q) (fun q=>q) (fun q=>q) (fun q=>q)
 have ho1:=q1.obj
 have gt1:((h.push (.cells 0 false [.int .i64 0,.nils])).set h.n (.cells 0 false (encL (l.fn,av)))).get h.n=.cells 0 false (encL (l.fn,av)):=AHeap.get_set_same _ _ _
 have lt1:h.n<((h.push (.cells 0 false [.int .i64 0,.nils])).set h.n (.cells 0 false (encL (l.fn,av)))).n:=by simp
 have lti:=q.lt
 have avc:=hA.now.cells
 simp only [encL] at c1 P1 q1 ho1 gt1 lt1
 simp -implicitDefEqProofs (disch:=first|exact dz _|fail) only [↓qJ,qK,qL,qA,qB,qC,qD,qE,↓reduceIte,qG,qH,qI,ho,lenl,w,x1,x2,x5,x4,encL,avc.1,avc.2]
 generalize (h.push (.cells 0 false [.int .i64 0,.nils])).set h.n (.cells 0 false [.int .i64 l.fn,av])=h1 at *
 obtain ⟨lv',u1,u2⟩:=q1.lates.upto (fun _=>rfl) (m:=f.lates.length-1) (by omega) .i64
 have uc:=u2.cells
 simp -implicitDefEqProofs (disch:=first|exact dz _|fail) only [↓qJ,qK,qL,qA,qB,qC,qD,qE,↓reduceIte,qG,qH,qI,ho1,u1,uc.1,uc.2,gt1]
 have c2:Chg (·=.fr k j) h1 (h1.set i (.cells 0 false [.int .i64 f.fn,.int .i64 f.pc,.int .u64 f.serial,sv,iv,lv',.int .i64 f.mode,.bool f.ending,vv])) γ.K γ.K:=(Chg.refl (·=.fr k j) h1 γ.K).set (fun _=>q1.kid) _
 have q2:FrV (h1.set i (.cells 0 false [.int .i64 f.fn,.int .i64 f.pc,.int .u64 f.serial,sv,iv,lv',.int .i64 f.mode,.bool f.ending,vv])) γ.K k j i { f with lates:=f.lates.take (f.lates.length-1) } sv iv lv' vv (la.take (f.lates.length-1)) :=
  ⟨q1.kid,q1.lt,AHeap.get_set_same _ _ _,q1.slots.keep c2 Tag.noConfusion,q1.into.keep c2 Tag.noConfusion,u2.keep c2 Tag.noConfusion,(q1.args.take _).mono fun _ _ _ _ _ q=>⟨q.1,q.2.keep c2 Tag.noConfusion⟩,q1.saved.keep c2 Tag.noConfusion⟩
 obtain ⟨P2,N2⟩:=P1.setFr c2 (fun t q=>.inl q) (fun j hj=>P1.k0 j hj) ⟨a.hr,a.hf,a.hx,a.hi⟩ ⟨_,_,_,_,_,q2⟩
 have gt2:=(c2.get h.n lt1 (fun e=>by have:=P.k0 h.n (by rw [e];exact Tag.noConfusion);omega)).trans gt1
 have hA2:=((hA.keep c1 (fun q=>q)).keep c2 Tag.noConfusion).now
 have lt2:h.n<(h1.set i (.cells 0 false [.int .i64 f.fn,.int .i64 f.pc,.int .u64 f.serial,sv,iv,lv',.int .i64 f.mode,.bool f.ending,vv])).n:=lt1
 generalize (h1.set i (.cells 0 false [.int .i64 f.fn,.int .i64 f.pc,.int .u64 f.serial,sv,iv,lv',.int .i64 f.mode,.bool f.ending,vv]))=h2 at *
 refine callI_of (frame P2 hA2 hg) ?_
 rintro v h3 ⟨n,rfl,F3,sv3,Fs,l1,l2,l3,l4,l5⟩
 simp -implicitDefEqProofs (disch:=first|exact dz _|fail) only [↓qJ,qK,qL,qA,qB,qC,qD,qE,↓reduceIte,qG,qH,qI,l3]
 have F4:HFrame h2 (h3.set n (.cells 0 false [.int .i64 g.fn,.int .i64 g.pc,.int .u64 g.serial,sv3,.nils,.nils,.int .i64 mode,.bool g.ending,.nils])) [] []:=F3.setTmp l1 _
 have hlates:g.lates=[]∧g.saved=[]∧g.into=[]:=by
  simp only [newF,Option.bind_eq_some_iff] at hg
  obtain ⟨F,_,hg⟩:=hg
  split at hg
  ·cases hg;exact ⟨rfl,rfl,rfl⟩
  ·cases hg
 refine callI_of (pushR (x:=x) (sv:=sv3) (iv:=.nils) (Fs:=Fs) (f:={ g with mode:=mode }) P2 F4 ⟨l1,l2,AHeap.get_set_same _ _ _,l4.frame (Nat.le_refl _) fun j hj=>AHeap.get_set_ne _ _ (l5 j hj).2,l5,hlates.1,hlates.2.1⟩ (by show Ro _ _ fun h=>SlRd h 1 encK _ g.into;rw [hlates.2.2];exact Ro.nil) (k:=k) (r:=r.setF j { f with lates:=f.lates.take (f.lates.length-1) }) ?_ a.hx hpu) ?_
 ·show (R.gs.set k _)[k]?=_
  exact List.getElem?_set_self (List.getElem?_eq_some_iff.1 a.hr).1
 rintro v h5 ⟨γ',P5,N5⟩
 simp -implicitDefEqProofs (disch:=first|exact dz _|fail) only [↓qJ,qK,qL,qA,qB,qC,qD,qE,↓reduceIte,qG,qH,qI]
 subst hQ
 rw [setR_setR] at P5
 exact ⟨γ',P5,((Nxt.tmp c1).trans N2).trans N5⟩
end
end Go.Proofs.Ytnbnpjhlflcjeaa.Id
namespace Go.Proofs.Ytnbnpjhlflcjeaa.Id
open Go Go.AM Go.Proofs.Ytnbnpjhlflcjeaa.AmGF
open Nat renaming reduceAdd → qA,reduceLeDiff → qB,reduceEqDiff → qC,reduceLT → qE
open Int renaming reduceToNat → qD,reduceEq → qG,reduceLT → qH,reduceLE → qI
section
variable {h0 h h':AHeap} {K:Nat→Tag} {γ:GI} {R:Run}
set_option maxHeartbeats 4000000 in
theorem unwind (P:RunP h γ R) {k:Nat} {R':Run} (hp:R.unwind k=some R') {r:Routine} (hr:R.gs[k]?=some r) {x:Nat×List Nat} (hx:γ.gs[k]?=some x) :
  CallP AP 59 [.ptr γ.d 0 0,.ptr x.1 0 0] h fun v h'=>∃ γ',RunP h' γ' R'∧Nxt h h' γ γ':=by
 refine callP (rfl:Tr.get AP 59=some A59) ?_
 generalize hQ:(fun (r:AVal) (h':AHeap)=>_)=Q
 unfold Run.unwind at hp
 rw [hr] at hp
 simp only [Option.bind_some,Option.bind_eq_some_iff] at hp
 obtain ⟨_,hb,hp⟩:=hp
 have hb:=lim_lt hb
 simp -implicitDefEqProofs (disch:=first|exact dz _|fail) only [↓qJ,qK,qL,qA,qB,qC,qD,qE,↓reduceIte,qG,qH,qI]
 refine loopI_of (fun n e h1=>n≤r.frames.length∧trimN r.frames n=trimN r.frames r.frames.length∧e.val 0=.ptr γ.d 0 0∧e.val 1=.ptr x.1 0 0∧RunP h1 { γ with gs:=γ.gs.set k (x.1,x.2.take n) } (R.setR k { r with frames:=r.frames.take n })∧Nxt h h1 γ { γ with gs:=γ.gs.set k (x.1,x.2.take n) }) r.frames.length ?_ ?_
 ·have hl:=((P.gsAll.2 k x r hx hr).elim fun _ s=>s.all.1)
  refine ⟨Nat.le_refl _,rfl,?_,?_,?_,?_⟩
  ·simp -implicitDefEqProofs (disch:=first|exact dz _|fail) only [↓qJ,qK,qL,qA,qB,qC,qD,qE,↓reduceIte,qG,qH,qI]
  ·simp -implicitDefEqProofs (disch:=first|exact dz _|fail) only [↓qJ,qK,qL,qA,qB,qC,qD,qE,↓reduceIte,qG,qH,qI]
  ·have e1:γ.gs.set k (x.1,x.2.take r.frames.length)=γ.gs:=by rw [←hl,List.take_length];exact set_self hx
   have e2:R.setR k { r with frames:=r.frames.take r.frames.length }=R:=by
    rw [List.take_length]
    show { R with gs:=R.gs.set k r }=R
    rw [set_self hr]
   rw [e1,e2];exact P
  ·have e1:γ.gs.set k (x.1,x.2.take r.frames.length)=γ.gs:=by rw [←hl,List.take_length];exact set_self hx
   rw [e1];exact Nxt.refl _ _
 ·rintro n e h1 ⟨hn,htr,y0,y1,P1,N1⟩
  have hk1:=(List.getElem?_eq_some_iff.1 hr).1
  have hk2:=(List.getElem?_eq_some_iff.1 hx).1
  have hr1:(R.setR k { r with frames:=r.frames.take n }).gs[k]?=some { r with frames:=r.frames.take n }:=List.getElem?_set_self hk1
  have hx1:(γ.gs.set k (x.1,x.2.take n))[k]?=some (x.1,x.2.take n):=List.getElem?_set_self hk2
  obtain ⟨x2,fv,hx2,s⟩:=P1.rt hr1
  obtain rfl:(x.1,x.2.take n)=x2:=by have:=hx1.symm.trans hx2;cases this;rfl
  have ho:=s.obj
  have hlt:=s.lt
  have hlen:=s.frs.len
  have hll:=s.all.1
  simp only at ho hlt hlen hll s
  have hx2l:=((P.gsAll.2 k x r hx hr).elim fun _ s=>s.all.1)
  rw [List.length_take,List.length_take] at hll
  simp -implicitDefEqProofs (disch:=first|exact dz _|fail) only [↓qJ,qK,qL,qA,qB,qC,qD,qE,↓reduceIte,qG,qH,qI,y0,y1,ho,hlen]
  refine cI_bool (fun hc=>?_) (fun hc=>?_)
  ·simp only [decide_eq_true_eq,List.length_take] at hc
   obtain ⟨m,rfl⟩:∃ m,n=m+1:=⟨n-1,by omega⟩
   obtain ⟨f,hf⟩:∃ f,r.frames[m]?=some f:=⟨_,List.getElem?_eq_getElem (by omega)⟩
   obtain ⟨i,hi⟩:∃ i,x.2[m]?=some i:=⟨_,List.getElem?_eq_getElem (by omega)⟩
   have hln:(r.frames.take (m+1)).length-1=m:=by rw [List.length_take];omega
   have hi1:(x.2.take (m+1))[m]?=some i:=by rw [List.getElem?_take,if_pos (by omega)];exact hi
   have hf1:(r.frames.take (m+1))[m]?=some f:=by rw [List.getElem?_take,if_pos (by omega)];exact hf
   simp -implicitDefEqProofs (disch:=first|exact dz _|fail) only [↓qJ,qK,qL,qA,qB,qC,qD,qE,↓reduceIte,qG,qH,qI,y0,y1]
   refine callI_of (top s (i:=i) (by rw [hln];exact hi1) (by rw [List.length_take];omega)) ?_
   rintro v h2 ⟨rfl,rfl⟩
   obtain ⟨i2,hi2,sv,iv,lv,vv,la,q⟩:=s.fr (j:=m) hf1
   obtain rfl:i=i2:=by have:=hi1.symm.trans hi2;cases this;rfl
   have hq:=q.obj
   have hqlt:=q.lt
   have hql:=q.lates.len
   have hla:=q.args.1
   simp -implicitDefEqProofs (disch:=first|exact dz _|fail) only [↓qJ,qK,qL,qA,qB,qC,qD,qE,↓reduceIte,qG,qH,qI,y0,y1,hq,hql]
   refine cI_bool (fun hd=>?_) (fun hd=>?_)
   ·simp only [decide_eq_true_eq] at hd
    have hne:f.lates.isEmpty=false:=by
     cases hfl:f.lates with
     | nil=>rw [hfl] at hla;simp at hla;rw [hla] at hd;simp at hd
     | cons a l=>rfl
    have htm:trimN r.frames (m+1)=m+1:=by unfold trimN;rw [hf];simp only [hne];rfl
    simp only [←htr,htm] at hp
    simp -implicitDefEqProofs (disch:=first|exact dz _|fail) only [↓qJ,qK,qL,qA,qB,qC,qD,qE,↓reduceIte,qG,qH,qI,y0,y1]
    have hw:=run P1 hp (x:=(x.1,x.2.take (m+1))) ⟨hr1,hf1,hx1,hi1⟩
    refine callI_of hw ?_
    rintro v h3 ⟨γ',P3,N3⟩
    simp -implicitDefEqProofs (disch:=first|exact dz _|fail) only [↓qJ,qK,qL,qA,qB,qC,qD,qE,↓reduceIte,qG,qH,qI]
    subst hQ
    exact ⟨γ',P3,N1.trans N3⟩
   ·simp only [decide_eq_false_iff_not] at hd
    have hne:f.lates.isEmpty=true:=by
     cases hfl:f.lates with
     | nil=>rfl
     | cons a l=>rw [hfl] at hla;simp at hla;omega
    have htm:trimN r.frames (m+1)=trimN r.frames m:=by
     conv=>lhs;unfold trimN
     rw [hf];simp only [hne];rfl
    have w:IntKind.i64.wrap (((x.2.take (m+1)).length:Int)-1)=((m:Nat):Int):=by rw [List.length_take];exact (wrap64 (by omega) (by omega)).trans (by omega)
    obtain ⟨fv',u1,u2⟩:=s.frs.upto (fun _=>rfl) (m:=m) (by rw [List.length_take];omega) .i64
    have uc:=u2.cells
    have ub:=u2.beq
    have fb:=s.frs.beq
    simp -implicitDefEqProofs (disch:=first|exact dz _|fail) only [↓qJ,qK,qL,qA,qB,qC,qD,qE,↓reduceIte,qG,qH,qI,y0,y1,ho,hlen,w,u1,uc.1,uc.2,ub,fb]
    have hp2:=P1.setRow (r':={ r with frames:=r.frames.take m }) ((Chg.refl (·=.rt k) h2 γ.K).set (fun _=>s.kid) _) hr1 hx1 s (m:=m) (by show r.frames.take m=(r.frames.take (m+1)).take m;rw [List.take_take,Nat.min_eq_left (by omega)]) u2 (AHeap.get_set_same _ _ _)
    obtain ⟨P2,N2⟩:=hp2
    simp only [List.take_take,Nat.min_eq_left (Nat.le_succ m),List.set_set] at P2 N2
    rw [setR_setR] at P2
    exact ⟨m,by omega,by omega,by rw [←htm];exact htr,P2,N1.trans N2⟩
  ·simp only [decide_eq_false_iff_not,List.length_take] at hc
   obtain rfl:n=0:=by omega
   simp -implicitDefEqProofs (disch:=first|exact dz _|fail) only [↓qJ,qK,qL,qA,qB,qC,qD,qE,↓reduceIte,qG,qH,qI,y0,y1,ho]
   have ht0:trimN r.frames 0=0:=rfl
   simp only [←htr,ht0] at hp
   have hp2:=P1.setRow0 (r':={ r with frames:=r.frames.take 0,state:=3 }) ((Chg.refl (·=.rt k) h1 γ.K).set (fun _=>s.kid) (.cells 0 false [.int .i64 3,.int .u64 r.till,.bool r.sleeps,fv,.int .u64 r.serial,.bool r.panics,.int .i64 r.number,.bool r.hit])) hr1 hx1 s rfl (AHeap.get_set_same _ _ _)
   obtain ⟨P2,N2⟩:=hp2
   rw [setR_setR] at P2
   refine callI_of (tell P2 hp) ?_
   rintro v h3 ⟨γ',P3,N3⟩
   simp -implicitDefEqProofs (disch:=first|exact dz _|fail) only [↓qJ,qK,qL,qA,qB,qC,qD,qE,↓reduceIte,qG,qH,qI]
   subst hQ
   exact ⟨γ',P3,(N1.trans N2).trans N3⟩
set_option maxHeartbeats 4000000 in
theorem panic (P:RunP h γ R) {number:Int} {R':Run} (hp:R.panic number=some R') :
  CallP AP 37 [.ptr γ.d 0 0,.int .i64 number] h fun v h'=>∃ γ',RunP h' γ' R'∧Nxt h h' γ γ':=by
 refine callP (rfl:Tr.get AP 37=some A37) ?_
 generalize hQ:(fun (r:AVal) (h':AHeap)=>_)=Q
 unfold Run.panic at hp
 simp only [Option.bind_eq_some_iff] at hp
 obtain ⟨r,hr,hp⟩:=hp
 obtain ⟨hg0,hr1,_⟩:=at?_nat hr
 obtain ⟨x,fv,hx,s⟩:=P.rt hr1
 have ho:=P.obj
 have hlt:=P.ltd
 have hro:=s.obj
 have hrlt:=s.lt
 have hgx:at? (γ.gs.map (·.1)) R.g=some x.1:=by unfold at?;rw [if_pos hg0,List.getElem?_map,hx];rfl
 obtain ⟨id,g,off,vs,x1,x2,x3,x4⟩:=P.gs.ix (enc:=fun id=>.ptr id 0 0) hgx
 simp -implicitDefEqProofs (disch:=first|exact dz _|fail) only [↓qJ,qK,qL,qA,qB,qC,qD,qE,↓reduceIte,qG,qH,qI,ho,x1,x2,x4,hro]
 have c2:=fun o o'=>(((Chg.refl (·=.rt R.g.toNat) h γ.K).set (i:=x.1) (fun _=>s.kid) o).set (i:=x.1) (fun _=>s.kid) o')
 obtain ⟨P2,N2⟩:=P.setRow0 (r':={ r with panics:=true,number:=number }) (c2 (.cells 0 false [.int .i64 r.state,.int .u64 r.till,.bool r.sleeps,fv,.int .u64 r.serial,.bool true,.int .i64 r.number,.bool r.hit]) (.cells 0 false [.int .i64 r.state,.int .u64 r.till,.bool r.sleeps,fv,.int .u64 r.serial,.bool true,.int .i64 number,.bool r.hit])) hr1 hx s rfl (AHeap.get_set_same _ _ _)
 refine callI_of (unwind P2 hp (r:={ r with panics:=true,number:=number }) (List.getElem?_set_self (List.getElem?_eq_some_iff.1 hr1).1) hx) ?_
 rintro v h3 ⟨γ',P3,N3⟩
 simp -implicitDefEqProofs (disch:=first|exact dz _|fail) only [↓qJ,qK,qL,qA,qB,qC,qD,qE,↓reduceIte,qG,qH,qI]
 subst hQ
 exact ⟨γ',P3,N2.trans N3⟩
end
end Go.Proofs.Ytnbnpjhlflcjeaa.Id
namespace Go.Proofs.Ytnbnpjhlflcjeaa.Id
open Go Go.AM Go.Proofs.Ytnbnpjhlflcjeaa.AmGF
open Nat renaming reduceAdd → qA,reduceLeDiff → qB,reduceEqDiff → qC,reduceLT → qE
open Int renaming reduceToNat → qD,reduceEq → qG,reduceLT → qH,reduceLE → qI
section
variable {h0 h h':AHeap} {K:Nat→Tag} {γ:GI} {R:Run}
theorem putAll_drop {s:List Int} {a b r:List Int} {i:Nat} {n:Int} (hn:a[i]?=some n) (hp:putAll s (a.drop i) (b.drop i)=some r):∃ w s',at? b (i:Int)=some w∧set? s n w=some s'∧putAll s' (a.drop (i+1)) (b.drop (i+1))=some r:=by
 have hi:=(List.getElem?_eq_some_iff.1 hn)
 have e1:a.drop i=n::a.drop (i+1):=by rw [List.drop_eq_getElem_cons hi.1,hi.2]
 rw [e1] at hp
 by_cases hb:i<b.length
 ·have e2:b.drop i=b[i]::b.drop (i+1):=List.drop_eq_getElem_cons hb
  rw [e2] at hp
  simp only [putAll,Option.bind_eq_some_iff] at hp
  obtain ⟨s',h1,h2⟩:=hp
  exact ⟨b[i],s',at?_of (List.getElem?_eq_getElem hb),h1,h2⟩
 ·rw [show b.drop i=[] from List.drop_of_length_le (by omega)] at hp
  simp [putAll] at hp
set_option maxHeartbeats 8000000 in
theorem iLeave (P:RunP h γ R) {k:Nat} {R':Run} (hp:R.leave k=some R') {r:Routine} (hr:R.gs[k]?=some r) {x:Nat×List Nat} (hx:γ.gs[k]?=some x) :
  CallP AP 90 [.ptr γ.d 0 0,.ptr x.1 0 0] h fun v h'=>∃ γ',RunP h' γ' R'∧Nxt h h' γ γ':=by
 refine callP (rfl:Tr.get AP 90=some A90) ?_
 generalize hQ:(fun (r:AVal) (h':AHeap)=>_)=Q
 unfold Run.leave at hp
 rw [hr] at hp
 simp only [Option.bind_some,Option.bind_eq_some_iff] at hp
 obtain ⟨_,hb,hp⟩:=hp
 have hb:=lim_lt hb
 simp -implicitDefEqProofs (disch:=first|exact dz _|fail) only [↓qJ,qK,qL,qA,qB,qC,qD,qE,↓reduceIte,qG,qH,qI]
 refine loopI_of (fun n e h1=>∃ γ1 R1 r1 x1,r1.frames.length=n∧n<1000000∧Run.leaveN n R1 k=some R'∧R1.gs[k]?=some r1∧γ1.gs[k]?=some x1∧x1.1=x.1∧γ1.d=γ.d∧e.val 0=.ptr γ.d 0 0∧e.val 1=.ptr x.1 0 0∧RunP h1 γ1 R1∧Nxt h h1 γ γ1) r.frames.length ?_ ?_
 ·refine ⟨γ,R,r,x,rfl,hb,hp,hr,hx,rfl,rfl,?_,?_,P,Nxt.refl _ _⟩<;>simp -implicitDefEqProofs (disch:=first|exact dz _|fail) only [↓qJ,qK,qL,qA,qB,qC,qD,qE,↓reduceIte,qG,qH,qI]
 ·clear hp hr hx hb P
  rintro n e h1 ⟨γ1,R1,r,x1,hn,hb,hp,hr,hx,ex,ed,y0,y1,P,N⟩
  cases n with
  | zero=>cases hp
  | succ n =>
   obtain ⟨x2,fv,hx2,s⟩:=P.rt hr
   obtain rfl:x1=x2:=by have:=hx.symm.trans hx2;cases this;rfl
   rw [Run.leaveN,hr] at hp
   simp only [Option.bind_some,Option.bind_eq_some_iff] at hp
   obtain ⟨f,hf,hp⟩:=hp
   rw [hn,Nat.add_sub_cancel] at hf
   rw [hn,Nat.add_sub_cancel] at hp
   obtain ⟨i,hi,sv,iv,lv,vv,la,q⟩:=s.fr hf
   have hq:=q.obj
   have hqlt:=q.lt
   have hql:=q.lates.len
   have hla:=q.args.1
   have ho:=s.obj
   have hlt:=s.lt
   have hlen:=s.frs.len
   have hll:=s.all.1
   have hdo:=P.obj
   have hdlt:=P.ltd
   rw [←ex] at y1
   rw [←ed] at y0
   simp -implicitDefEqProofs (disch:=first|exact dz _|fail) only [↓qJ,qK,qL,qA,qB,qC,qD,qE,↓reduceIte,qG,qH,qI,y0,y1]
   refine callI_of (top s (i:=i) (by rw [hn];exact hi) (by omega)) ?_
   rintro v h2 ⟨rfl,rfl⟩
   by_cases hd:(0:Int)<(la.length:Int)
   ·have hne:f.lates.isEmpty=false:=by
     cases hfl:f.lates with
     | nil=>rw [hfl] at hla;simp at hla;rw [hla] at hd;simp at hd
     | cons a l=>rfl
    rw [if_pos hne] at hp
    have d1:decide ((0:Int)<(la.length:Int))=true:=decide_eq_true hd
    simp -implicitDefEqProofs (disch:=first|exact dz _|fail) only [↓qJ,qK,qL,qA,qB,qC,qD,qE,↓reduceIte,qG,qH,qI,y0,y1,hq,hql,d1]
    refine callI_of (run P hp ⟨hr,hf,hx,hi⟩) ?_
    rintro v h3 ⟨γ',P3,N3⟩
    simp -implicitDefEqProofs (disch:=first|exact dz _|fail) only [↓qJ,qK,qL,qA,qB,qC,qD,qE,↓reduceIte,qG,qH,qI]
    subst hQ
    exact ⟨γ',P3,N.trans N3⟩
   ·have d1:decide ((0:Int)<(la.length:Int))=false:=decide_eq_false hd
    have hne:¬ f.lates.isEmpty=false:=by
     cases hfl:f.lates with
     | nil=>simp
     | cons a l=>rw [hfl] at hla;simp at hla;omega
    rw [if_neg hne] at hp
    have w:IntKind.i64.wrap ((x1.2.length:Int)-1)=((n:Nat):Int):=(wrap64 (by omega) (by omega)).trans (by omega)
    obtain ⟨fv',u1,u2⟩:=s.frs.upto (fun _=>rfl) (m:=n) (by omega) .i64
    have uc:=u2.cells
    have ub:=u2.beq
    have fb:=s.frs.beq
    have ul:∀ h',lenV h' fv'=some (.int .i64 (n:Int),h'):=fun h'=>by rw [u2.len h',List.length_take,Nat.min_eq_left (by omega)]
    have hk1:=(List.getElem?_eq_some_iff.1 hr).1
    have hk2:=(List.getElem?_eq_some_iff.1 hx).1
    have c2:Chg (·=.rt k) h2 (h2.set x1.1 (.cells 0 false [.int .i64 r.state,.int .u64 r.till,.bool r.sleeps,fv',.int .u64 r.serial,.bool r.panics,.int .i64 r.number,.bool r.hit])) γ1.K γ1.K:=(Chg.refl (·=.rt k) h2 γ1.K).set (fun _=>s.kid) _
    obtain ⟨P2,N2⟩:=P.setRow (r':={ r with frames:=r.frames.take n }) c2 hr hx s (m:=n) rfl u2 (AHeap.get_set_same _ _ _)
    have q2:=q.keep c2 Tag.noConfusion Tag.noConfusion Tag.noConfusion Tag.noConfusion
    have hr2:(R1.setR k { r with frames:=r.frames.take n }).gs[k]?=some { r with frames:=r.frames.take n }:=List.getElem?_set_self hk1
    have hx2:(γ1.gs.set k (x1.1,x1.2.take n))[k]?=some (x1.1,x1.2.take n):=List.getElem?_set_self hk2
    by_cases hz:n=0
    ·subst hz
     rw [if_pos rfl] at hp
     have d2:decide (((0:Nat):Int)=0)=true:=rfl
     obtain ⟨P3,N3⟩:=P.setRow (h':=(h2.set x1.1 (.cells 0 false [.int .i64 r.state,.int .u64 r.till,.bool r.sleeps,fv',.int .u64 r.serial,.bool r.panics,.int .i64 r.number,.bool r.hit])).set x1.1 (.cells 0 false [.int .i64 3,.int .u64 r.till,.bool r.sleeps,fv',.int .u64 r.serial,.bool r.panics,.int .i64 r.number,.bool r.hit])) (r':={ r with frames:=r.frames.take 0,state:=3 }) (c2.set (fun _=>s.kid) _) hr hx s (m:=0) rfl u2 (AHeap.get_set_same _ _ _)
     have g3:=((c2.set (i:=x1.1) (fun _=>s.kid) (.cells 0 false [.int .i64 3,.int .u64 r.till,.bool r.sleeps,fv',.int .u64 r.serial,.bool r.panics,.int .i64 r.number,.bool r.hit])).keep hdlt P.kd Tag.noConfusion).trans hdo
     by_cases hg:R1.g=0
     ·rw [if_pos hg] at hp
      have d3:decide (R1.g=0)=true:=decide_eq_true hg
      simp -implicitDefEqProofs (disch:=first|exact dz _|fail) only [↓qJ,qK,qL,qA,qB,qC,qD,qE,↓reduceIte,qG,qH,qI,y0,y1,hq,hql,d1,ho,hlen,w,u1,uc.1,uc.2,ub,fb,ul,d2,g3,d3]
      refine callI_of (tell P3 hp) ?_
      rintro v h4 ⟨γ',P4,N4⟩
      simp -implicitDefEqProofs (disch:=first|exact dz _|fail) only [↓qJ,qK,qL,qA,qB,qC,qD,qE,↓reduceIte,qG,qH,qI]
      subst hQ
      exact ⟨γ',P4,(N.trans N3).trans N4⟩
     ·rw [if_neg hg] at hp
      cases hp
      have d3:decide (R1.g=0)=false:=decide_eq_false hg
      simp -implicitDefEqProofs (disch:=first|exact dz _|fail) only [↓qJ,qK,qL,qA,qB,qC,qD,qE,↓reduceIte,qG,qH,qI,y0,y1,hq,hql,d1,ho,hlen,w,u1,uc.1,uc.2,ub,fb,ul,d2,g3,d3]
      subst hQ
      exact ⟨_,P3,N.trans N3⟩
    ·rw [if_neg hz] at hp
     have d2:decide ((n:Int)=0)=false:=decide_eq_false (by omega)
     simp only [Option.bind_eq_some_iff] at hp
     obtain ⟨b,hb',hp⟩:=hp
     obtain ⟨m,rfl⟩:∃ m,n=m+1:=⟨n-1,by omega⟩
     have em:m+1+1-2=m:=by omega
     rw [em] at hb' hp
     have hb2:(r.frames.take (m+1))[m]?=some b:=by rw [List.getElem?_take,if_pos (by omega)];exact hb'
     obtain ⟨x3,fv3,hx3,s2⟩:=P2.rt hr2
     obtain rfl:(x1.1,x1.2.take (m+1))=x3:=by have:=hx2.symm.trans hx3;cases this;rfl
     obtain ⟨i',hi',svb,ivb,lvb,vvb,lab,qb⟩:=s2.fr hb2
     have hdo2:=P2.obj
     have hdlt2:=P2.ltd
     have hq2:=q2.obj
     have hqlt2:=q2.lt
     have ho2:=s2.obj
     have hlt2:=s2.lt
     have top2:=top s2 (i:=i') (by simp only [List.length_take];rw [show min (m+1) r.frames.length-1=m by omega];exact hi') (by simp only [List.length_take];omega)
     simp -implicitDefEqProofs (disch:=first|exact dz _|fail) only [↓qJ,qK,qL,qA,qB,qC,qD,qE,↓reduceIte,qG,qH,qI,y0,y1,hq,hql,d1,ho,hlen,w,u1,uc.1,uc.2,ub,fb,ul,d2]
     generalize (h2.set x1.1 (.cells 0 false [.int .i64 r.state,.int .u64 r.till,.bool r.sleeps,fv',.int .u64 r.serial,.bool r.panics,.int .i64 r.number,.bool r.hit]))=h3 at *
     refine callI_of top2 ?_
     rintro v h4 ⟨rfl,rfl⟩
     have N3:=N.trans N2
     have hbo:=qb.obj
     have hblt:=qb.lt
     by_cases hm0:f.mode=0
     ·rw [if_pos hm0] at hp
      simp only [Option.bind_eq_some_iff,Option.map_eq_some_iff] at hp
      obtain ⟨_,hlim,sf,hp,rfl⟩:=hp
      have hlim:=lim_lt hlim
      have e1:decide (f.mode=0)=true:=decide_eq_true hm0
      have il:=q2.into.now.len
      simp -implicitDefEqProofs (disch:=first|exact dz _|fail) only [↓qJ,qK,qL,qA,qB,qC,qD,qE,↓reduceIte,qG,qH,qI,y0,y1,hq2,e1,il]
      refine loopI_of (fun c e h5=>∃ (z:Nat) (s:List Int),c+z=f.into.length∧e.val 4=.ptr i 0 0∧e.val 5=.ptr i' 0 0∧e.val 61=iv∧e.val 62=.int .i64 (f.into.length:Int)∧e.val 63=.int .i64 (z:Int)∧Chg (·=.slots k m) h4 h5 γ1.K γ1.K∧FrV h5 γ1.K k m i' { b with slots:=s } svb ivb lvb vvb lab∧putAll s (f.into.drop z) (f.saved.drop z)=some sf) f.into.length ?_ ?_
      ·refine ⟨0,b.slots,by omega,?_,?_,?_,?_,?_,Chg.refl _ _ _,qb,hp⟩<;>(simp -implicitDefEqProofs (disch:=first|exact dz _|fail) only [↓qJ,qK,qL,qA,qB,qC,qD,qE,↓reduceIte,qG,qH,qI])<;>rfl
      ·rintro c e h5 ⟨z,s,hcz,z4,z5,z61,z62,z63,C5,q5,hp⟩
       simp -implicitDefEqProofs (disch:=first|exact dz _|fail) only [↓qJ,qK,qL,qA,qB,qC,qD,qE,↓reduceIte,qG,qH,qI,z62,z63]
       refine cI_bool (fun hc=>?_) (fun hc=>?_)
       ·simp only [decide_eq_true_eq] at hc
        obtain ⟨nn,hnn⟩:∃ nn,f.into[z]?=some nn:=⟨_,List.getElem?_eq_getElem (by omega)⟩
        obtain ⟨w,s',hw,hs',hp'⟩:=putAll_drop hnn hp
        obtain ⟨rfl,w0,hw0⟩:=set?_some hs'
        have qf:=q2.keep C5 Tag.noConfusion Tag.noConfusion (fun e=>by cases e) Tag.noConfusion
        have hqf:=qf.obj
        have hqlt:=qf.lt
        have hq5:=q5.obj
        have hq5lt:=q5.lt
        obtain ⟨id1,g1,off1,vs1,ro1,t1,t2,t3,t4⟩:=SlRd.ixI (enc:=fun n=>.int .i64 n) qf.into.now (at?_of hnn)
        obtain ⟨id2,g2,off2,vs2,ro2,v1,v2,v3,v4⟩:=SlRd.ixI (enc:=fun n=>.int .u64 n) qf.saved.now hw
        obtain ⟨id3,g3,o3,vs3,p1,p2,p3,p4,p5,p6,p7⟩:=q5.put hw0
        obtain ⟨C6,q6⟩:=p7 w
        have wz:IntKind.i64.wrap ((z:Int)+1)=((z+1:Nat):Int):=(wrap64 (by omega) (by omega)).trans (by omega)
        simp -implicitDefEqProofs (disch:=first|exact dz _|fail) only [↓qJ,qK,qL,qA,qB,qC,qD,qE,↓reduceIte,qG,qH,qI,z4,z5,z61,z62,z63,hqf,hq5,t1,t2,t4,v1,v2,v4,p2,p4,p6,wz]
        exact ⟨c-1,by omega,z+1,_,by omega,rfl,C5.trans C6,q6,hp'⟩
       ·simp only [decide_eq_false_iff_not] at hc
        simp -implicitDefEqProofs (disch:=first|exact dz _|fail) only [↓qJ,qK,qL,qA,qB,qC,qD,qE,↓reduceIte,qG,qH,qI]
        rw [List.drop_of_length_le (by omega)] at hp
        simp only [putAll,Option.some.injEq] at hp
        subst hp
        obtain ⟨P6,N6⟩:=P2.setFr C5 (fun t q=>.inr (.inl q)) (fun j hj=>Nat.lt_of_lt_of_le (P2.k0 j hj) C5.n) ⟨hr2,hb2,hx2,hi'⟩ ⟨_,_,_,_,_,q5⟩
        rw [setR_setR] at P6
        subst hQ
        exact ⟨_,P6,N3.trans N6⟩
     ·rw [if_neg hm0] at hp
      have e1:decide (f.mode=0)=false:=decide_eq_false hm0
      by_cases hm2:f.mode=2
      ·rw [if_pos hm2] at hp
       have e2:decide (f.mode=2)=true:=decide_eq_true hm2
       by_cases hpn:r.panics=true
       ·rw [if_pos hpn] at hp
        simp -implicitDefEqProofs (disch:=first|exact dz _|fail) only [↓qJ,qK,qL,qA,qB,qC,qD,qE,↓reduceIte,qG,qH,qI,y0,y1,hq2,e1,e2,ho2,hpn]
        refine callI_of (unwind P2 hp hr2 (x:=(x1.1,x1.2.take (m+1))) hx2) ?_
        rintro v h5 ⟨γ',P5,N5⟩
        simp -implicitDefEqProofs (disch:=first|exact dz _|fail) only [↓qJ,qK,qL,qA,qB,qC,qD,qE,↓reduceIte,qG,qH,qI]
        subst hQ
        exact ⟨γ',P5,N3.trans N5⟩
       ·rw [if_neg hpn] at hp
        have hpn':r.panics=false:=by simpa using hpn
        simp only [Option.bind_eq_some_iff] at hp
        obtain ⟨F,hF,_,hlim,hp⟩:=hp
        have hlim:=lim_lt hlim
        obtain ⟨idp,gp,offp,vsp,rop,row,p1,p2,p3,p4,p5,p6,p7,svp,rvp,cvp,rfl,s1p,s2p,s3p⟩:=P2.prog.f.ix hF
        have p8:vsp[offp+2]?=some rvp:=row_at p6 (by omega)
        have hs:=s2p.now.len
        have ms:=fun h=>ms_u64 h F.results.length hlim
        have hdo3:h4.get γ1.d=_:=hdo2
        have nei:i'≠γ1.d:=fun e=>by have h1:=P2.kd;have h2:=qb.kid;rw [←e] at h1;exact Tag.noConfusion (h1.symm.trans h2)
        simp only at hdo3 hdlt2
        simp -implicitDefEqProofs (disch:=first|exact dz _|fail) only [↓qJ,qK,qL,qA,qB,qC,qD,qE,↓reduceIte,qG,qH,qI,y0,y1,hq2,e1,e2,ho2,hpn',hdo3,p1,p2,p8,hs,ms,hbo]
        obtain ⟨K',hK'⟩:∃ K':Nat→Tag,K'=fun j=>if j=h4.n then Tag.ro else γ1.K j:=⟨_,rfl⟩
        have Ko:∀ j,j<h4.n→K' j=γ1.K j:=fun j hj=>by rw [hK'];exact if_neg (by omega)
        have C5:=fun o o' o''=>((((Chg.refl (·=.fr k m) h4 γ1.K).set (i:=i') (fun _=>qb.kid) o).push o').set (i:=i') (fun _=>qb.kid) o'').tag Ko
        have key:∀ h5:AHeap,Chg (·=.fr k m) h4 h5 γ1.K K'→h5.get h4.n=.cells 0 false (List.replicate F.results.length (.int .u64 0))→h5.n=h4.n+1→h5.get i'=.cells 0 false [.int .i64 b.fn,.int .i64 b.pc,.int .u64 b.serial,svb,ivb,lvb,.int .i64 b.mode,.bool true,.sl h4.n 0 0 F.results.length 1]→FrV h5 K' k m i' { b with ending:=true,saved:=List.replicate F.results.length 0 } svb ivb lvb (.sl h4.n 0 0 F.results.length 1) lab:=fun h5 C g1 n5 g2 =>
         ⟨(Ko _ qb.lt).trans qb.kid,Nat.lt_of_lt_of_le qb.lt C.n,g2,qb.slots.keep C Tag.noConfusion,qb.into.keep C Tag.noConfusion,qb.lates.keep C Tag.noConfusion,qb.args.mono fun _ _ _ _ _ q=>⟨q.1,q.2.keep C Tag.noConfusion⟩,Ro.of (F:=[h4.n]) (.inr ⟨h4.n,0,0,_,by simp,g1,by omega,by simp,by simp [flatP],rfl⟩) fun j hj=>by
          obtain rfl:j=h4.n:=by simpa using hj
          rw [hK'];exact if_pos rfl⟩
        obtain ⟨P6,N6⟩:=P2.setFr (C5 (.cells 0 false [.int .i64 b.fn,.int .i64 b.pc,.int .u64 b.serial,svb,ivb,lvb,.int .i64 b.mode,.bool true,vvb]) (.cells 0 false (List.replicate F.results.length (.int .u64 0))) (.cells 0 false [.int .i64 b.fn,.int .i64 b.pc,.int .u64 b.serial,svb,ivb,lvb,.int .i64 b.mode,.bool true,.sl h4.n 0 0 F.results.length 1])) (fun t q=>.inl q) (fun j hj=>by
          by_cases ej:j=h4.n
          ·subst ej;simp
          ·rw [hK'] at hj
           simp only [if_neg ej] at hj
           have:=P2.k0 j hj
           simp;omega) ⟨hr2,hb2,hx2,hi'⟩ ⟨_,_,_,_,_,key _ (C5 _ _ _) (by rw [AHeap.get_set_ne _ _ (by omega)];exact AHeap.get_push_same _ _) (by simp) (AHeap.get_set_same _ _ _)⟩
        rw [setR_setR] at P6
        refine ⟨m+1,by omega,{ γ1 with K:=K',gs:=γ1.gs.set k (x1.1,x1.2.take (m+1)) },_,_,(x1.1,x1.2.take (m+1)),?_,by omega,hp,List.getElem?_set_self ?_,hx2,ex,ed,by rw [ed],by rw [ex],P6,N3.trans N6⟩
        ·simp only [Routine.setF,List.length_set,List.length_take];omega
        ·exact hk1
      ·rw [if_neg hm2] at hp
       have e2:decide (f.mode=2)=false:=decide_eq_false hm2
       simp -implicitDefEqProofs (disch:=first|exact dz _|fail) only [↓qJ,qK,qL,qA,qB,qC,qD,qE,↓reduceIte,qG,qH,qI,y0,y1,hq2,e1,e2]
       exact ⟨m+1,by omega,{ γ1 with gs:=γ1.gs.set k (x1.1,x1.2.take (m+1)) },_,_,(x1.1,x1.2.take (m+1)),by simp only [List.length_take];omega,by omega,hp,hr2,hx2,ex,ed,by rw [ed],by rw [ex],P2,N3⟩
end
end Go.Proofs.Ytnbnpjhlflcjeaa.Id
namespace Go.Proofs.Ytnbnpjhlflcjeaa.Id
open Go Go.AM Go.Proofs.Ytnbnpjhlflcjeaa.AmGF
open Nat renaming reduceAdd → qA,reduceLeDiff → qB,reduceEqDiff → qC,reduceLT → qE
open Int renaming reduceToNat → qD,reduceEq → qG,reduceLT → qH,reduceLE → qI
theorem bit (h:AHeap) (b:Bool):CallP AP 85 [.bool b] h fun v h'=>v=.int .u64 (bitI b)∧h'=h:=by
 refine callP (rfl:Tr.get AP 85=some A85) ?_
 generalize hQ:(fun (r:AVal) (h':AHeap)=>_)=Q
 cases b
 ·simp -implicitDefEqProofs (disch:=first|exact dz _|fail) only [↓qJ,qK,qL,qA,qB,qC,qD,qE,↓reduceIte,qG,qH,qI]
  subst hQ;exact ⟨rfl,rfl⟩
 ·simp -implicitDefEqProofs (disch:=first|exact dz _|fail) only [↓qJ,qK,qL,qA,qB,qC,qD,qE,↓reduceIte,qG,qH,qI]
  subst hQ;exact ⟨rfl,rfl⟩
theorem RunP.kn {h:AHeap} {γ:GI} {R:Run} (P:RunP h γ R):γ.K h.n=.no:=Decidable.byContradiction fun q=>by have:=P.k0 _ q;omega
theorem name (h:AHeap) (g k:Int):CallP AP 95 [.int .i64 g,.int .i64 k] h fun v h'=>v=.int .i64 (nameI g k)∧h'=h:=by
 refine callP (rfl:Tr.get AP 95=some A95) ?_
 generalize hQ:(fun (r:AVal) (h':AHeap)=>_)=Q
 simp -implicitDefEqProofs (disch:=first|exact dz _|fail) only [↓qJ,qK,qL,qA,qB,qC,qD,qE,↓reduceIte,qG,qH,qI]
 subst hQ;exact ⟨rfl,rfl⟩
section
variable {h0 h h':AHeap} {K:Nat→Tag} {γ:GI} {R:Run}
theorem SlRd.ixA {α:Type} {enc:α→List AVal} {n:Nat} {v:AVal} {l:List α} (s:SlRd h n enc v l) (hE:∀ a,(enc a).length=n) {x:Int} {a:α} (hi:at? l x=some a) :
  ∃ id g off vs ro,(∀ k:IntKind,ixV h n v (.int k x)=some (.ptr id g off,h))∧h.get id=.cells g ro vs∧id<h.n∧off+n≤vs.length∧(vs.drop off).take n=enc a:=by
 obtain ⟨h0,h1,h2⟩:=at?_nat hi
 have ea:((x.toNat:Nat):Int)=x:=by omega
 obtain ⟨id,g,off,vs,ro,e1,e2,e3,e4,e5,e6⟩:=s.at hE h1
 refine ⟨id,g,off+x.toNat*n,vs,ro,fun k=>?_,e2,e3,e4,e5⟩
 rw [e1,ix_sl h e2 h0 (by omega)]
theorem RunP.thing (P:RunP h γ R) {x:Int} {t:Thing} (ht:at? R.things x=some t):∃ y,at? γ.th x=some y∧ThP h γ.K x.toNat y t:=by
 obtain ⟨h0,h1,h2⟩:=at?_nat ht
 obtain ⟨y,hy,q⟩:=P.th1 h1
 exact ⟨y,by unfold at?;rw [if_pos h0];exact hy,q⟩
def ChV (h:AHeap) (γ:GI) (w:Int) (v:AVal) (c:Option CS):Prop:=(v=.nilp∧c=none)∨∃ y s,at? γ.th w=some y∧v=y.2.2∧c=some s∧ChP h γ.K w.toNat v (some s)
theorem channel (P:RunP h γ R) {w:Int} {c:Option CS} (hp:R.channel w=some c):CallP AP 93 [.ptr γ.d 0 0,.int .u64 w] h fun v h'=>ChV h γ w v c∧h'=h:=by
 refine callP (rfl:Tr.get AP 93=some A93) ?_
 generalize hQ:(fun (r:AVal) (h':AHeap)=>_)=Q
 unfold Run.channel at hp
 by_cases e:w=0
 ·rw [if_pos e] at hp
  cases hp
  have d1:decide (w=0)=true:=decide_eq_true e
  simp -implicitDefEqProofs (disch:=first|exact dz _|fail) only [↓qJ,qK,qL,qA,qB,qC,qD,qE,↓reduceIte,qG,qH,qI,d1]
  subst hQ
  exact ⟨.inl ⟨rfl,rfl⟩,rfl⟩
 ·rw [if_neg e] at hp
  simp only [Option.map_eq_some_iff] at hp
  obtain ⟨t,ht,rfl⟩:=hp
  have d1:decide (w=0)=false:=decide_eq_false e
  obtain ⟨y,hy,q⟩:=P.thing ht
  have ho:=P.obj
  have hlt:=P.ltd
  obtain ⟨id,g,off,vs,ro,x1,x2,x3,x4,x5⟩:=SlRd.ixA P.things.rd (fun _=>rfl) hy
  have x6:vs[off+2]?=some y.2.2:=row_at x5 (by omega)
  simp -implicitDefEqProofs (disch:=first|exact dz _|fail) only [↓qJ,qK,qL,qA,qB,qC,qD,qE,↓reduceIte,qG,qH,qI,d1,ho,x1,x2,x6]
  subst hQ
  refine ⟨?_,rfl⟩
  have hc:=q.ch
  cases htc:t.ch with
  | none=>rw [htc] at hc;exact .inl ⟨hc,rfl⟩
  | some s=>rw [htc] at hc;exact .inr ⟨y,s,hy,rfl,rfl,hc⟩
theorem ins (P:RunP h γ R) {k j i:Nat} {f:Frame} {sv iv lv vv:AVal} {la:List (Int×AVal)} (q:FrV h γ.K k j i f sv iv lv vv la) {F:PFunc} (hF:at? R.p.funcs f.fn=some F) {z:PIns} (hz:at? F.code (i64 (f.pc-1))=some z) :
  CallP AP 109 [.ptr γ.d 0 0,.ptr i 0 0] h fun v h'=>∃ zv,v=.agg [.int .i64 z.op,.int .i64 z.a,.int .i64 z.b,.int .i64 z.c,.int .u64 z.imm,zv]∧(Ro h' γ.K fun h=>SlRd h 1 encK zv z.list)∧Chg (fun _=>False) h h' γ.K γ.K:=by
 refine callP (rfl:Tr.get AP 109=some A109) ?_
 generalize hQ:(fun (r:AVal) (h':AHeap)=>_)=Q
 have c1:=(Chg.refl (fun _=>False) h γ.K).push (.cells 0 false [.int .i64 0,.int .i64 0,.int .i64 0,.int .i64 0,.int .u64 0,.nils])
 have P1:=P.tmp c1
 have q1:=q.keep c1 (fun q=>q) (fun q=>q) (fun q=>q) (fun q=>q)
 have ho:=P1.obj
 have hlt:=P1.ltd
 have hq:=q1.obj
 have hqlt:=q1.lt
 obtain ⟨idp,gp,offp,vsp,rop,row,p1,p2,p3,p4,p5,p6,p7,svp,rvp,cvp,rfl,s1p,s2p,s3p⟩:=P1.prog.f.ix hF
 have p8:vsp[offp+3]?=some cvp:=row_at p6 (by omega)
 obtain ⟨idz,gz,offz,vsz,roz,rowz,z1,z2,z3,z4,z5,z6,z7,zv,rfl,sz⟩:=s3p.ix hz
 have zc:=sz.now.cells
 have gt:(h.push (.cells 0 false [.int .i64 0,.int .i64 0,.int .i64 0,.int .i64 0,.int .u64 0,.nils])).get h.n=.cells 0 false [.int .i64 0,.int .i64 0,.int .i64 0,.int .i64 0,.int .u64 0,.nils]:=AHeap.get_push_same _ _
 have lt:h.n<(h.push (.cells 0 false [.int .i64 0,.int .i64 0,.int .i64 0,.int .i64 0,.int .u64 0,.nils])).n:=by simp
 unfold i64 at z1
 simp -implicitDefEqProofs (disch:=first|exact dz _|fail) only [↓qJ,qK,qL,qA,qB,qC,qD,qE,↓reduceIte,qG,qH,qI]
 generalize (h.push (.cells 0 false [.int .i64 0,.int .i64 0,.int .i64 0,.int .i64 0,.int .u64 0,.nils]))=h1 at *
 simp -implicitDefEqProofs (disch:=first|exact dz _|fail) only [↓qJ,qK,qL,qA,qB,qC,qD,qE,↓reduceIte,qG,qH,qI,ho,hq,p1,p2,p8,z1,z2,z5,z6,zc.1,zc.2,gt]
 subst hQ
 exact ⟨zv,rfl,sz.keep ((Chg.refl (·=.no) h1 γ.K).set (fun _=>P.kn) _) Tag.noConfusion,c1.set (fun q=>absurd q (Nat.lt_irrefl _)) _⟩
theorem add {K':Nat→Tag} {t:Thing} {y:Int×AVal×AVal} {R':Run} (hp:R.addT t=some R') (hlt0:h0.n≤h.n) (P0:RunP h0 γ R) (c0:Chg (fun _=>False) h0 h γ.K K') (kk0:∀ j,K' j≠.no→j<h.n) (q:ThP h K' R.things.length y t) (cw:y.2.1.cell=true) (cc:y.2.2.cell=true) :
  CallP AP 88 [.ptr γ.d 0 0,.agg (encT y)] h fun v h'=>v=.int .u64 (R.things.length:Nat)∧∃ γ',RunP h' γ' R'∧Nxt h0 h' γ γ'∧γ'.gs=γ.gs∧Chg (TT .d .things) h0 h' γ.K γ'.K:=by
 refine callP (rfl:Tr.get AP 88=some A88) ?_
 generalize hQ:(fun (r:AVal) (h':AHeap)=>_)=Q
 unfold Run.addT app? at hp
 split at hp
 ·rename_i hb
  cases hp
  have c1:=c0.push (.cells 0 false [.int .i64 y.1,y.2.1,y.2.2])
  have ho:=(c1.keep P0.ltd P0.kd (fun q=>q)).trans P0.obj
  have hlt:=Nat.lt_of_lt_of_le P0.ltd c1.n
  have gt:(h.push (.cells 0 false [.int .i64 y.1,y.2.1,y.2.2])).get h.n=.cells 0 false [.int .i64 y.1,y.2.1,y.2.2]:=AHeap.get_push_same _ _
  have n1:(h.push (.cells 0 false [.int .i64 y.1,y.2.1,y.2.2])).n=h.n+1:=rfl
  have bq:=P0.things.beq
  have th1:=P0.things.keep c1 (fun q=>q)
  have hbl:=P0.thAll.1
  have kd':K' γ.d=.d:=(c0.k _ P0.ltd).trans P0.kd
  have q1:=q.keep ((Chg.refl (fun _=>False) h K').push (.cells 0 false [.int .i64 y.1,y.2.1,y.2.2])) (fun q=>q) (fun q=>q)
  simp -implicitDefEqProofs (disch:=first|exact dz _|fail) only [↓qJ,qK,qL,qA,qB,qC,qD,qE,↓reduceIte,qG,qH,qI,encT,cw,cc]
  generalize (h.push (.cells 0 false [.int .i64 y.1,y.2.1,y.2.2]))=h1 at *
  have hln:h.n<h1.n:=by omega
  simp -implicitDefEqProofs (disch:=first|exact dz _|fail) only [↓qJ,qK,qL,qA,qB,qC,qD,qE,↓reduceIte,qG,qH,qI,ho,gt,cw,cc]
  refine trOp_of (th1.app1 (fun _=>rfl) y (by simp only [List.all_cons,cw,cc];rfl) (by omega) fun v' h2 K2 s c kk=>?_)
  have kd1:K' γ.d≠.things:=by rw [kd'];exact Tag.noConfusion
  have ho2:=(c.keep hlt kd' Tag.noConfusion).trans ho
  have hlt2:=Nat.lt_of_lt_of_le hlt c.n
  have sc:=s.cells
  have sl:=s.len
  have w1:IntKind.i64.wrap (((γ.th++[y]).length:Int)-1)=(R.things.length:Nat):=by rw [List.length_append,List.length_singleton];exact (wrap64 (by omega) (by omega)).trans (by omega)
  have w2:IntKind.u64.wrap ((R.things.length:Nat):Int)=(R.things.length:Nat):=wrapU64 (by omega) (by omega)
  simp -implicitDefEqProofs (disch:=first|exact dz _|fail) only [↓qJ,qK,qL,qA,qB,qC,qD,qE,↓reduceIte,qG,qH,qI,ho,ho2,gt,sc.1,sc.2,sl,bq,w1,w2,cw,cc]
  have c3:=fun o=>(((c1.wide (T1:=TT .d .things) fun _ q=>q.elim).trans (c.wide (T1:=TT .d .things) fun t q=>Or.inr q))).set (i:=γ.d) (fun _=>Or.inl P0.kd) o
  have kd2:K2 γ.d=.d:=(c.k _ hlt).trans kd'
  have cs:=fun o=>(Chg.refl (·=Tag.d) h2 K2).set (i:=γ.d) (fun _=>kd2) o
  obtain ⟨P3,N3⟩:=P0.addT (c3 _) (fun j hj=>by
   rcases kk j with e | e
   ·have:=kk0 j (by rw [←e];exact hj)
    have:=c.n
    show j<h2.n;omega
   ·exact e.2) (s.keep (cs _) Tag.noConfusion) ((q1.keep c Tag.noConfusion Tag.noConfusion).keep (cs (.cells 0 false [γ.tv,γ.gv,γ.fv,γ.glv,v',γ.gsv,.int .u64 R.clock,γ.trv,.bool R.ended,.int .i64 R.g])) Tag.noConfusion Tag.noConfusion) (AHeap.get_set_same _ _ _)
  subst hQ
  exact ⟨rfl,_,P3,N3,rfl,c3 _⟩
 ·cases hp
end
end Go.Proofs.Ytnbnpjhlflcjeaa.Id
namespace Go.Proofs.Ytnbnpjhlflcjeaa.Id
open Go Go.AM Go.Proofs.Ytnbnpjhlflcjeaa.AmGF
open Nat renaming reduceAdd → qA,reduceLeDiff → qB,reduceEqDiff → qC,reduceLT → qE
open Int renaming reduceToNat → qD,reduceEq → qG,reduceLT → qH,reduceLE → qI
section
variable {h0 h h':AHeap} {K:Nat→Tag} {γ:GI} {R:Run}
set_option maxHeartbeats 2000000 in
theorem sleep (P:RunP h γ R) {k:Nat} {ticks:Int} {R':Run} (hp:R.sleep k ticks=some R') {r:Routine} (hr:R.gs[k]?=some r) {x:Nat×List Nat} (hx:γ.gs[k]?=some x) :
  CallP AP 64 [.ptr γ.d 0 0,.ptr x.1 0 0,.int .i64 ticks] h fun v h'=>∃ γ',RunP h' γ' R'∧Nxt h h' γ γ':=by
 refine callP (rfl:Tr.get AP 64=some A64) ?_
 generalize hQ:(fun (r:AVal) (h':AHeap)=>_)=Q
 unfold Run.sleep at hp
 have ho:=P.obj
 have hlt:=P.ltd
 obtain ⟨x2,fv,hx2,s⟩:=P.rt hr
 obtain rfl:x=x2:=by have:=hx.symm.trans hx2;cases this;rfl
 have hro:=s.obj
 have hrlt:=s.lt
 by_cases c1:ticks≤0
 ·rw [if_pos (.inl c1)] at hp
  cases hp
  have d1:decide (ticks≤0)=true:=decide_eq_true c1
  simp -implicitDefEqProofs (disch:=first|exact dz _|fail) only [↓qJ,qK,qL,qA,qB,qC,qD,qE,↓reduceIte,qG,qH,qI,ho,d1]
  subst hQ
  exact ⟨γ,P,Nxt.refl _ _⟩
 ·have d1:decide (ticks≤0)=false:=decide_eq_false c1
  by_cases c2:R.clock=1099511627776
  ·rw [if_pos (.inr c2)] at hp
   cases hp
   have d2:decide (R.clock=1099511627776)=true:=decide_eq_true c2
   simp -implicitDefEqProofs (disch:=first|exact dz _|fail) only [↓qJ,qK,qL,qA,qB,qC,qD,qE,↓reduceIte,qG,qH,qI,ho,d1,d2]
   subst hQ
   exact ⟨γ,P,Nxt.refl _ _⟩
  ·rw [if_neg (by rintro (e | e);exact c1 e;exact c2 e),hr] at hp
   simp only [Option.map_some,Option.some.injEq] at hp
   subst hp
   have d2:decide (R.clock=1099511627776)=false:=decide_eq_false c2
   simp -implicitDefEqProofs (disch:=first|exact dz _|fail) only [↓qJ,qK,qL,qA,qB,qC,qD,qE,↓reduceIte,qG,qH,qI,ho,d1,d2,hro]
   subst hQ
   obtain ⟨P2,N2⟩:=P.setRow0 (r':={ r with till:=min (u64 (R.clock+min (u64 ticks) 1099511627776)) 1099511627776,sleeps:=true,state:=2 }) ((((Chg.refl (·=.rt k) h γ.K).set (i:=x.1) (fun _=>s.kid) _).set (i:=x.1) (fun _=>s.kid) _).set (i:=x.1) (fun _=>s.kid) _) hr hx s rfl (AHeap.get_set_same _ _ _)
   exact ⟨γ,P2,N2⟩
theorem refersF_drop {w:Int} {fs:List Frame} {z:Nat} {f:Frame} (hf:fs[z]?=some f):refersF w (fs.drop z) z=if f.serial=u64 (w.tdiv 64)∧0<w then (if (w.tmod 64).toNat<f.slots.length then some (some (z,(w.tmod 64).toNat)) else none) else refersF w (fs.drop (z+1)) (z+1):=by
 have hi:=List.getElem?_eq_some_iff.1 hf
 have e:fs.drop z=f::fs.drop (z+1):=by rw [List.drop_eq_getElem_cons hi.1,hi.2]
 rw [e];rfl
set_option maxHeartbeats 2000000 in
theorem refers (P:RunP h γ R) {k:Nat} {w:Int} (hw:0≤w) {r:Routine} (hr:R.gs[k]?=some r) {x:Nat×List Nat} (hx:γ.gs[k]?=some x) (hb:r.frames.length<1000000) {o:Option (Nat×Nat)} (hp:refersF w r.frames 0=some o) :
  CallP AP 65 [.ptr x.1 0 0,.int .u64 w] h fun v h'=>h'=h∧((o=none∧v=.nilp)∨∃ n m f i sv iv lv vv la id g off vs w0,o=some (n,m)∧r.frames[n]?=some f∧x.2[n]?=some i∧FrV h γ.K k n i f sv iv lv vv la∧f.slots[m]?=some w0∧v=.ptr id g off∧ixV h 1 sv (.int .u64 (m:Int))=some (.ptr id g off,h)∧h.get id=.cells g false vs∧id<h.n∧vs[off]?=some (.int .u64 w0)∧off+1≤vs.length ∧
   ∀ w,Chg (·=.slots k n) h (h.set id (.cells g false (vs.take off++[.int .u64 w]++vs.drop (off+1)))) γ.K γ.K∧FrV (h.set id (.cells g false (vs.take off++[.int .u64 w]++vs.drop (off+1)))) γ.K k n i { f with slots:=f.slots.set m w } sv iv lv vv la):=by
 refine callP (rfl:Tr.get AP 65=some A65) ?_
 generalize hQ:(fun (r:AVal) (h':AHeap)=>_)=Q
 obtain ⟨x2,fv,hx2,s⟩:=P.rt hr
 obtain rfl:x=x2:=by have:=hx.symm.trans hx2;cases this;rfl
 have hro:=s.obj
 have hrlt:=s.lt
 have hfl:=s.frs.len
 have hll:=s.all.1
 simp -implicitDefEqProofs (disch:=first|exact dz _|fail) only [↓qJ,qK,qL,qA,qB,qC,qD,qE,↓reduceIte,qG,qH,qI,hro,hfl]
 refine loopI_of (fun c e h5=>∃ z:Nat,c+z=x.2.length∧h5=h∧e.val 0=.ptr x.1 0 0∧e.val 1=.int .u64 w∧e.val 10=fv∧e.val 11=.int .i64 (x.2.length:Int)∧e.val 12=.int .i64 (z:Int)∧refersF w (r.frames.drop z) z=some o) x.2.length ?_ ?_
 ·refine ⟨0,by omega,rfl,?_,?_,?_,?_,?_,hp⟩<;>(simp -implicitDefEqProofs (disch:=first|exact dz _|fail) only [↓qJ,qK,qL,qA,qB,qC,qD,qE,↓reduceIte,qG,qH,qI])<;>rfl
 ·rintro c e h5 ⟨z,hcz,rfl,z0,z1,z10,z11,z12,hp⟩
  simp -implicitDefEqProofs (disch:=first|exact dz _|fail) only [↓qJ,qK,qL,qA,qB,qC,qD,qE,↓reduceIte,qG,qH,qI,z11,z12]
  refine cI_bool (fun hc=>?_) (fun hc=>?_)
  ·simp only [decide_eq_true_eq] at hc
   obtain ⟨f,hf⟩:∃ f,r.frames[z]?=some f:=⟨_,List.getElem?_eq_getElem (by omega)⟩
   obtain ⟨i,hi,sv,iv,lv,vv,la,q⟩:=s.fr hf
   rw [refersF_drop hf] at hp
   have hq:=q.obj
   have hqlt:=q.lt
   obtain ⟨id1,g1,off1,vs1,t1,t2,t3,t4⟩:=s.frs.ix (enc:=fun id=>.ptr id 0 0) (at?_of hi)
   have wz:IntKind.i64.wrap ((z:Int)+1)=((z+1:Nat):Int):=(wrap64 (by omega) (by omega)).trans (by omega)
   by_cases c1:f.serial=u64 (w.tdiv 64)
   ·have d1:decide (f.serial=IntKind.u64.wrap (w.tdiv 64))=true:=decide_eq_true c1
    by_cases c2:0<w
    ·rw [if_pos ⟨c1,c2⟩] at hp
     have d2:decide (0<w)=true:=decide_eq_true c2
     split at hp
     ·rename_i hm
      cases hp
      have hm':((w.tmod 64).toNat:Int)=w.tmod 64:=Int.toNat_of_nonneg (Int.tmod_nonneg _ hw)
      have hat:at? f.slots (w.tmod 64)=some (f.slots[(w.tmod 64).toNat]):=by unfold at?;rw [if_pos (by omega)];exact List.getElem?_eq_getElem hm
      obtain ⟨id3,g3,o3,vs3,p1,p2,p3,p4,p5,p6,p7⟩:=q.put hat
      simp -implicitDefEqProofs (disch:=first|exact dz _|fail) only [↓qJ,qK,qL,qA,qB,qC,qD,qE,↓reduceIte,qG,qH,qI,z0,z1,z10,z12,t1,t2,t4,hq,d1,d2,p4]
      subst hQ
      exact ⟨rfl,.inr ⟨z,_,f,i,sv,iv,lv,vv,la,id3,g3,o3,vs3,_,rfl,hf,hi,q,List.getElem?_eq_getElem hm,rfl,by rw [hm'];exact p4 _,p2,p3,p5,p6,p7⟩⟩
     ·cases hp
    ·rw [if_neg (fun q=>c2 q.2)] at hp
     have d2:decide (0<w)=false:=decide_eq_false c2
     simp -implicitDefEqProofs (disch:=first|exact dz _|fail) only [↓qJ,qK,qL,qA,qB,qC,qD,qE,↓reduceIte,qG,qH,qI,z0,z1,z10,z11,z12,t1,t2,t4,hq,d1,d2,wz]
     exact ⟨c-1,by omega,z+1,by omega,rfl,hp⟩
   ·rw [if_neg (fun q=>c1 q.1)] at hp
    have d1:decide (f.serial=IntKind.u64.wrap (w.tdiv 64))=false:=decide_eq_false c1
    simp -implicitDefEqProofs (disch:=first|exact dz _|fail) only [↓qJ,qK,qL,qA,qB,qC,qD,qE,↓reduceIte,qG,qH,qI,z0,z1,z10,z11,z12,t1,t2,t4,hq,d1,wz]
    exact ⟨c-1,by omega,z+1,by omega,rfl,hp⟩
  ·simp only [decide_eq_false_iff_not] at hc
   simp -implicitDefEqProofs (disch:=first|exact dz _|fail) only [↓qJ,qK,qL,qA,qB,qC,qD,qE,↓reduceIte,qG,qH,qI]
   rw [List.drop_of_length_le (by omega)] at hp
   cases hp
   subst hQ
   exact ⟨rfl,.inl ⟨rfl,rfl⟩⟩
set_option maxHeartbeats 2000000 in
theorem stuckG (P:RunP h γ R) (hb:R.gs.length<1000000):CallP AP 40 [.ptr γ.d 0 0] h fun v h'=>v=.bool R.stuck∧h'=h:=by
 refine callP (rfl:Tr.get AP 40=some A40) ?_
 generalize hQ:(fun (r:AVal) (h':AHeap)=>_)=Q
 have ho:=P.obj
 have hlt:=P.ltd
 have hgl:=P.gs.len
 have hll:=P.gsAll.1
 have eg:(γ.gs.map (·.1)).length=γ.gs.length:=List.length_map _
 rw [eg] at hgl
 simp -implicitDefEqProofs (disch:=first|exact dz _|fail) only [↓qJ,qK,qL,qA,qB,qC,qD,qE,↓reduceIte,qG,qH,qI,ho,hgl]
 refine loopI_of (fun c e h5=>∃ z:Nat,c+z=γ.gs.length∧h5=h∧e.val 0=.ptr γ.d 0 0∧e.val 8=γ.gsv∧e.val 9=.int .i64 (γ.gs.length:Int)∧e.val 10=.int .i64 (z:Int)∧R.stuck=(R.gs.drop z).all fun r=>!(decide (r.state=1)||r.sleeps)) γ.gs.length ?_ ?_
 ·refine ⟨0,by omega,rfl,?_,?_,?_,?_,rfl⟩<;>(simp -implicitDefEqProofs (disch:=first|exact dz _|fail) only [↓qJ,qK,qL,qA,qB,qC,qD,qE,↓reduceIte,qG,qH,qI])<;>rfl
 ·rintro c e h5 ⟨z,hcz,rfl,z0,z8,z9,z10,hp⟩
  simp -implicitDefEqProofs (disch:=first|exact dz _|fail) only [↓qJ,qK,qL,qA,qB,qC,qD,qE,↓reduceIte,qG,qH,qI,z9,z10]
  refine cI_bool (fun hc=>?_) (fun hc=>?_)
  ·simp only [decide_eq_true_eq] at hc
   obtain ⟨r,hr⟩:∃ r,R.gs[z]?=some r:=⟨_,List.getElem?_eq_getElem (by omega)⟩
   obtain ⟨x,fv,hx,s⟩:=P.rt hr
   have hro:=s.obj
   have hrlt:=s.lt
   have hi:=List.getElem?_eq_some_iff.1 hr
   have ed:R.gs.drop z=r::R.gs.drop (z+1):=by rw [List.drop_eq_getElem_cons hi.1,hi.2]
   rw [ed,List.all_cons] at hp
   obtain ⟨id1,g1,off1,vs1,t1,t2,t3,t4⟩:=P.gs.ix (enc:=fun id=>.ptr id 0 0) (at?_of (n:=z) (a:=x.1) (by rw [List.getElem?_map,hx];rfl))
   have wz:IntKind.i64.wrap ((z:Int)+1)=((z+1:Nat):Int):=(wrap64 (by omega) (by omega)).trans (by omega)
   by_cases c1:r.state=1
   ·have d1:decide (r.state=1)=true:=decide_eq_true c1
    simp -implicitDefEqProofs (disch:=first|exact dz _|fail) only [↓qJ,qK,qL,qA,qB,qC,qD,qE,↓reduceIte,qG,qH,qI,z0,z8,z10,t1,t2,t4,hro,d1]
    subst hQ
    rw [hp,d1];exact ⟨rfl,rfl⟩
   ·have d1:decide (r.state=1)=false:=decide_eq_false c1
    cases c2:r.sleeps with
    | true =>
     simp -implicitDefEqProofs (disch:=first|exact dz _|fail) only [↓qJ,qK,qL,qA,qB,qC,qD,qE,↓reduceIte,qG,qH,qI,z0,z8,z10,t1,t2,t4,hro,d1,c2]
     subst hQ
     rw [hp,d1,c2];exact ⟨rfl,rfl⟩
    | false =>
     simp -implicitDefEqProofs (disch:=first|exact dz _|fail) only [↓qJ,qK,qL,qA,qB,qC,qD,qE,↓reduceIte,qG,qH,qI,z0,z8,z9,z10,t1,t2,t4,hro,d1,c2,wz]
     exact ⟨c-1,by omega,z+1,by omega,rfl,by rw [hp,d1,c2];rfl⟩
  ·simp only [decide_eq_false_iff_not] at hc
   simp -implicitDefEqProofs (disch:=first|exact dz _|fail) only [↓qJ,qK,qL,qA,qB,qC,qD,qE,↓reduceIte,qG,qH,qI]
   rw [List.drop_of_length_le (by omega)] at hp
   subst hQ
   exact ⟨by rw [hp];rfl,rfl⟩
end
end Go.Proofs.Ytnbnpjhlflcjeaa.Id