/-
 What the functions of this seat do,on the machine: lemmas for the laws.
-/
import Derived.Test.YtnbnpjhlflcjeaaFX6
set_option linter.unusedSimpArgs false
set_option linter.unusedVariables false
set_option maxRecDepth 100000
attribute [local irreducible] Go.AM.wp Go.AM.wpIs Go.AM.wpTr Go.AM.opI Go.AM.gI Go.AM.cI Go.AM.trI Go.AM.callI Go.AM.fnI Go.AM.yldI Go.AM.rangeI Go.AM.rangeC Go.AM.YldP Go.AM.asgQ Go.AM.roundQ Go.AM.rangeQ Go.AM.trG Go.AM.trOp Go.AM.trCall Go.AM.seqC Go.AM.loopI
namespace Go.Proofs.Ytnbnpjhlflcjeaa.Id
open Go Go.AM Go.Proofs.Ytnbnpjhlflcjeaa.AmGF
open Nat renaming reduceAdd → qA,reduceLeDiff → qB,reduceEqDiff → qC,reduceLT → qE
open Int renaming reduceToNat → qD,reduceEq → qG,reduceLT → qH,reduceLE → qI
abbrev encK (n:Int):List AVal:=[.int .i64 n]
structure PIns where
 op:Int
 a:Int
 b:Int
 c:Int
 imm:Nat
 list:List Int
structure PFunc where
 params:Int
 slots:List Int
 results:List Int
 code:List PIns
structure PProg where
 types:List (Bool×List Int)
 globals:List Int
 funcs:List PFunc
def TypeR (h:AHeap) (t:Bool×List Int) (row:List AVal):Prop:=∃ v,row=[.bool t.1,v]∧SlIn h 1 encK v t.2
def InsR (h:AHeap) (i:PIns) (row:List AVal):Prop:=i.imm≤18446744073709551615∧∃ v,row=[.int .i64 i.op,.int .i64 i.a,.int .i64 i.b,.int .i64 i.c,.int .u64 i.imm,v]∧SlIn h 1 encK v i.list
def FuncR (h:AHeap) (f:PFunc) (row:List AVal):Prop:=∃ sv rv cv,row=[.int .i64 f.params,sv,rv,cv]∧SlIn h 1 encK sv f.slots∧SlIn h 1 encK rv f.results∧SlR h 6 (InsR h) cv f.code
def ProgR (h:AHeap) (p:PProg) (row:List AVal):Prop:=∃ tv gv fv,row=[tv,gv,fv]∧SlR h 2 (TypeR h) tv p.types∧SlIn h 1 encK gv p.globals∧SlR h 4 (FuncR h) fv p.funcs
section
variable {h h':AHeap} (hn:h.n≤h'.n) (k:∀ j,j<h.n→h'.get j=h.get j)
 include hn k
theorem TypeR.mono {t:Bool×List Int} {row:List AVal} (r:TypeR h t row):TypeR h' t row:=by
 obtain ⟨v,e,s⟩:=r;exact ⟨v,e,s.mono hn k⟩
theorem InsR.mono {i:PIns} {row:List AVal} (r:InsR h i row):InsR h' i row:=by
 obtain ⟨q,v,e,s⟩:=r;exact ⟨q,v,e,s.mono hn k⟩
theorem FuncR.mono {f:PFunc} {row:List AVal} (r:FuncR h f row):FuncR h' f row:=by
 obtain ⟨a,b,c,e,s1,s2,s3⟩:=r
 exact ⟨a,b,c,e,s1.mono hn k,s2.mono hn k,s3.mono (fun _ _ q=>InsR.mono hn k q) hn k⟩
theorem ProgR.mono {p:PProg} {row:List AVal} (r:ProgR h p row):ProgR h' p row:=by
 obtain ⟨a,b,c,e,s1,s2,s3⟩:=r
 exact ⟨a,b,c,e,s1.mono (fun _ _ q=>TypeR.mono hn k q) hn k,s2.mono hn k,s3.mono (fun _ _ q=>FuncR.mono hn k q) hn k⟩
end
abbrev mx:Int:=9223372036854775807
structure PIns.Ok (i:PIns):Prop where
 op:i.op≤mx
 a:i.a≤mx
 b:i.b≤mx
 c:i.c≤mx
 imm:i.imm≤18446744073709551615
 list:∀ x,x∈i.list→x≤mx
structure PFunc.Ok (f:PFunc):Prop where
 params:f.params≤mx
 slots:∀ x,x∈f.slots→x≤mx
 results:∀ x,x∈f.results→x≤mx
 code:∀ x,x∈f.code→x.Ok
structure PProg.Ok (p:PProg):Prop where
 types:∀ t,t∈p.types→∀ x,x∈t.2→x≤mx
 globals:∀ x,x∈p.globals→x≤mx
 funcs:∀ f,f∈p.funcs→f.Ok
theorem SlIn.cellv {h:AHeap} {esz:Nat} {α:Type} {enc:α→List AVal} {v:AVal} {l:List α} (s:SlIn h esz enc v l):v.cell=true:=by
 rcases s with s | ⟨_,_,_,rfl,_⟩
 ·exact s.cells.2
 ·rfl
theorem SlR.cellv {h:AHeap} {esz:Nat} {α:Type} {R:α→List AVal→Prop} {v:AVal} {l:List α} (s:SlR h esz R v l):v.cell=true:=by
 rcases s with ⟨rfl,_⟩ | ⟨_,_,rfl,_⟩ | ⟨_,_,_,_,_,_,rfl,_⟩<;>rfl
theorem two_of {vs:List AVal} {off:Nat} {a b:AVal} (e:(vs.drop off).take 2=[a,b]):vs[off]?=some a∧vs[off+1]?=some b:=by
 have h1:((vs.drop off).take 2)[0]?=some a:=by rw [e];rfl
 have h2:((vs.drop off).take 2)[1]?=some b:=by rw [e];rfl
 rw [List.getElem?_take,if_pos (by omega),List.getElem?_drop] at h1 h2
 exact ⟨h1,h2⟩
theorem SlIn.beqv {h:AHeap} {esz:Nat} {α:Type} {enc:α→List AVal} {v:AVal} {l:List α} (s:SlIn h esz enc v l):v.beq v=true:=by
 rcases s with s | ⟨_,_,_,rfl,_⟩
 ·exact s.beq
 ·exact AM.beq_sl _ _ _ _ _
theorem SlR.beqv {h:AHeap} {esz:Nat} {α:Type} {R:α→List AVal→Prop} {v:AVal} {l:List α} (s:SlR h esz R v l):v.beq v=true:=by
 rcases s with ⟨rfl,_⟩ | ⟨_,_,rfl,_⟩ | ⟨_,_,_,_,_,_,rfl,_⟩
 ·rfl
 ·exact AM.beq_sl _ _ _ _ _
 ·exact AM.beq_sl _ _ _ _ _
theorem SlR.atv {h:AHeap} {esz:Nat} {α:Type} {R:α→List AVal→Prop} {v:AVal} {l:List α} (s:SlR h esz R v l) {i:Nat} {a:α} (hi:l[i]?=some a) :
  ∃ id g off vs ro row,v=.sl id g off l.length esz∧h.get id=.cells g ro vs∧id<h.n∧off+i*esz+esz≤vs.length∧(vs.drop (off+i*esz)).take esz=row∧row.length=esz∧R a row:=by
 have hlt:i<l.length:=(List.getElem?_eq_some_iff.1 hi).1
 obtain ⟨id,g,off,vs,ro,row,e1,e2,e3,e4,e5,e6,e7⟩:=s.ix hi .i64
 rcases s with ⟨_,rfl⟩ | ⟨id',off',_,rfl,_⟩ | ⟨id',g',off',vs',ro',rows,rfl,a1,a2,_⟩
 ·simp at hi
 ·simp at hi
 ·rw [AM.ix_sl h a1 (Int.natCast_nonneg _) (by omega)] at e1
  simp only [Option.some.injEq,Prod.mk.injEq,AVal.ptr.injEq,and_true,Int.toNat_natCast] at e1
  obtain ⟨rfl,rfl,rfl⟩:=e1
  rw [a1] at e2
  simp only [AObj.cells.injEq,true_and] at e2
  obtain ⟨rfl,rfl⟩:=e2
  exact ⟨_,_,off',_,_,row,rfl,a1,a2,e4,e5,e6,e7⟩
theorem ProgR.cellv {h:AHeap} {p:PProg} {row:List AVal} (R:ProgR h p row):row.all (·.cell)=true∧row.length=3:=by
 obtain ⟨a,b,c,rfl,s1,s2,s3⟩:=R
 have c1:=SlR.cellv s1
 have c2:=SlIn.cellv s2
 have c3:=SlR.cellv s3
 simp only [List.all_cons,c1,c2,c3,List.all_nil,Bool.and_self,List.length_cons,List.length_nil]
 trivial
theorem ProgR.keep {h h':AHeap} {p:PProg} {row:List AVal} (R:ProgR h p row) {F:List Nat} (f:HFrame h h' [] F):ProgR h' p row:=ProgR.mono f.n (fun j hj=>f.get j hj (by simp)) R
structure PT (P:Program) (tB tI tU tK tSK tSI tIns tSIns tFunc tSFunc tType tSType tProg:TypeId):Prop where
 uB:P.underlying tB=some .bool
 uI:P.underlying tI=some (.int .i64)
 uU:P.underlying tU=some (.int .u64)
 uK:P.underlying tK=some (.int .i64)
 uSK:P.underlying tSK=some (.slice tK)
 uSI:P.underlying tSI=some (.slice tI)
 uIns:∃ fs,P.underlying tIns=some (.struct fs)∧fs.toList.map (·.type)=[tI,tI,tI,tI,tU,tSI]
 uSIns:P.underlying tSIns=some (.slice tIns)
 uFunc:∃ fs,P.underlying tFunc=some (.struct fs)∧fs.toList.map (·.type)=[tI,tSK,tSK,tSIns]
 uSFunc:P.underlying tSFunc=some (.slice tFunc)
 uType:∃ fs,P.underlying tType=some (.struct fs)∧fs.toList.map (·.type)=[tB,tSK]
 uSType:P.underlying tSType=some (.slice tType)
 uProg:∃ fs,P.underlying tProg=some (.struct fs)∧fs.toList.map (·.type)=[tSType,tSK,tSFunc]
 cK:P.cellsOf tK=1
 cI:P.cellsOf tI=1
 cIns:P.cellsOf tIns=6
 cFunc:P.cellsOf tFunc=4
 cType:P.cellsOf tType=2
def sT (t:Bool×List Int):Nat:=t.2.length+3
def sI (i:PIns):Nat:=i.list.length+7
def sF (f:PFunc):Nat:=f.slots.length+f.results.length+(f.code.map sI).sum+5
def sP (p:PProg):Nat:=(p.types.map sT).sum+p.globals.length+(p.funcs.map sF).sum+4
section
variable {H:Type} {P:Program} {tB tI tU tK tSK tSI tIns tSIns tFunc tSFunc tType tSType tProg:TypeId} (T:PT P tB tI tU tK tSK tSI tIns tSIns tFunc tSFunc tType tSType tProg) {bw:DataW H→Nat} {all:List (DataW H)→Nat} (B:Bulk H bw all) {h:AHeap} {F:Nat}
 include T B
end
def orC (t s:Nat):List (Nat×Int)→ACode
 | []=>.skip
 | [(r,k)]=>.region [⟨some r,.op (.bin .eql (.tmp s) (.val (.int .i64 k))),none⟩,⟨some t,.op (.mov (.tmp r)),none⟩]
 | (r,k)::l=>.seq (.region [⟨some r,.op (.bin .eql (.tmp s) (.val (.int .i64 k))),none⟩,⟨some t,.op (.mov (.tmp r)),none⟩]) (.cond (.tmp t) .skip (orC t s l))
def orB (x:Int) (l:List Int):Bool:=l.any fun k=>decide (x=k)
theorem cI_or {P:AProg} {t s:Nat} {x:Int} (hst:s≠t):∀ (l:List (Nat×Int)) {c:Bool} {Q:Post} {e:Env} {h:AHeap},e.val s=.int .i64 x→e.val t=.bool c→(∀ j,j∈l→j.1≠t∧j.1≠s) →
  (∀ e',e'.val t=.bool (c||orB x (l.map (·.2)))→(∀ j,j≠t→(∀ q,q∈l→q.1≠j)→e'.val j=e.val j)→Q .normal e' h)→cI P (.bool c) .skip (orC t s l) Q e h:=by
 intro l
 induction l with
 | nil =>
  intro c Q e h hs ht hl k
  have:=k e (by rw [ht];simp [orB]) (fun _ _ _=>rfl)
  cases c<;>simp -implicitDefEqProofs (disch:=first|exact dz _|fail) only [↓qJ,qK,qL,qA,qB,qC,qD,qE,↓reduceIte,qG,qH,qI,orC]<;>exact this
 | cons a l ih =>
  intro c Q e h hs ht hl k
  cases c with
  | true =>
   have:=k e (by rw [ht];simp) (fun _ _ _=>rfl)
   simp -implicitDefEqProofs (disch:=first|exact dz _|fail) only [↓qJ,qK,qL,qA,qB,qC,qD,qE,↓reduceIte,qG,qH,qI];exact this
  | false =>
   obtain ⟨r,n⟩:=a
   have hr:=hl (r,n) List.mem_cons_self
   have h1:Nat.beq t r=false:=by cases hq:Nat.beq t r with | false=>rfl | true=>exact absurd (Nat.eq_of_beq_eq_true hq).symm hr.1
   have nb:∀ {a b:Nat},a≠b→Nat.beq a b=false:=fun {a b} q=>by cases hq:Nat.beq a b with | false=>rfl | true=>exact absurd (Nat.eq_of_beq_eq_true hq) q
   have keep:∀ j,j≠t→r≠j→Env.val ((Tr.set e r (AVal.bool (decide (x=n)))).set t (AVal.bool (decide (x=n)))) j=e.val j:=fun j h1 h2=>by
    rw [AM.val_ne _ _ _ _ (nb h1),AM.val_ne _ _ _ _ (nb (Ne.symm h2))]
   cases l with
   | nil =>
    unfold orC
    simp -implicitDefEqProofs (disch:=first|exact dz _|fail) only [↓qJ,qK,qL,qA,qB,qC,qD,qE,↓reduceIte,qG,qH,qI,hs]
    exact k _ (by rw [AM.val_same];simp [orB]) fun j h1 h2=>keep j h1 (h2 (r,n) List.mem_cons_self)
   | cons b l =>
    unfold orC
    simp -implicitDefEqProofs (disch:=first|exact dz _|fail) only [↓qJ,qK,qL,qA,qB,qC,qD,qE,↓reduceIte,qG,qH,qI,hs]
    refine ih ?_ (AM.val_same _ _ _) (fun j hj=>hl j (List.mem_cons_of_mem _ hj)) fun e' h1 h2=>k e' ?_ fun j a1 a2=>?_
    ·rw [keep s hst hr.2];exact hs
    ·rw [h1];simp [orB]
    ·rw [h2 j a1 fun q hq=>a2 q (List.mem_cons_of_mem _ hq)]
     exact keep j a1 (a2 (r,n) List.mem_cons_self)
def retT (o:Option (AVal×AHeap)) (w:AVal) (h:AHeap):Option (AVal×AHeap):=o.map fun p=>(.tup [p.1,w],h)
theorem res_ct (e:Env) (h:AHeap) (t u:Nat) (n:Option Nat):((resOf ⟨e,h⟩ [.cell t n,.tmp u]).map fun v=>(v,h))=retT (aop e h (.load n (.tmp t))) (e.val u) h:=by
 simp only [resOf,resVals,resVal,retT]
 cases aop e h (.load n (.tmp t))<;>rfl
theorem retT_some (v w:AVal) (h' h:AHeap):retT (some (v,h')) w h=some (.tup [v,w],h):=rfl
end Go.Proofs.Ytnbnpjhlflcjeaa.Id
namespace Go.Proofs.Ytnbnpjhlflcjeaa.Id
open Go Go.AM Go.Proofs.Ytnbnpjhlflcjeaa.AmGF
open Nat renaming reduceAdd → qA,reduceLeDiff → qB,reduceEqDiff → qC,reduceLT → qE
open Int renaming reduceToNat → qD,reduceEq → qG,reduceLT → qH,reduceLE → qI
structure CS where
 ps:List Int
 cap:Int
 cl:Bool
 ss:List (Int×Int)
 gs:List (Int×Int)
abbrev encP (n:Int):List AVal:=[.int .u64 n]
abbrev encW (p:Int×Int):List AVal:=[.int .i64 p.1,.int .u64 p.2]
structure ChanIn (h:AHeap) (c:Nat) (s:CS) (pv sv gv:AVal) (Fp Fs Fg:List Nat):Prop where
 obj:h.get c=.cells 0 false [pv,.int .i64 s.cap,.bool s.cl,sv,gv]
 lt:c<h.n
 hp:SlOf h 1 encP pv s.ps Fp
 hs:SlOf h 2 encW sv s.ss Fs
 hg:SlOf h 2 encW gv s.gs Fg
 nd:(c::(Fp++Fs++Fg)).Nodup
def ChanAt (h:AHeap) (c:Nat) (s:CS) (F:List Nat):Prop:=∃ pv sv gv Fp Fs Fg,ChanIn h c s pv sv gv Fp Fs Fg∧F=c::(Fp++Fs++Fg)
theorem _root_.Go.AM.SlOf.nd {h:AHeap} {esz:Nat} {α:Type} {enc:α→List AVal} {v:AVal} {l:List α} {F:List Nat} (s:SlOf h esz enc v l F):F.Nodup:=by
 rcases s with ⟨_,_,rfl⟩ | ⟨_,_,_,_,_,_,_,_,_,rfl⟩<;>simp
theorem ChanIn.all {h:AHeap} {c:Nat} {s:CS} {pv sv gv:AVal} {Fp Fs Fg:List Nat} (H:ChanIn h c s pv sv gv Fp Fs Fg):∀ j,j∈c::(Fp++Fs++Fg)→j<h.n:=by
 intro j hj;simp only [List.mem_cons,List.mem_append] at hj
 rcases hj with rfl | (hj | hj) | hj
 ·exact H.lt
 ·exact H.hp.lt j hj
 ·exact H.hs.lt j hj
 ·exact H.hg.lt j hj
theorem ChanIn.upd {h h':AHeap} {c:Nat} {s:CS} {pv sv gv:AVal} {Fp Fs Fg:List Nat} (H:ChanIn h c s pv sv gv Fp Fs Fg) {s':CS} {pv' sv' gv':AVal} {Fp' Fs' Fg' F F':List Nat}
  (f:HFrame h h' F F') (hF:∀ j,j∈F→j∈Fp++Fs++Fg) (hF':∀ j,j∈Fp'++Fs'++Fg'→j∈F'∨j∈Fp++Fs++Fg) (nd:(Fp'++Fs'++Fg').Nodup)
  (p:SlOf h' 1 encP pv' s'.ps Fp') (q:SlOf h' 2 encW sv' s'.ss Fs') (r:SlOf h' 2 encW gv' s'.gs Fg') :
  ChanIn (h'.set c (.cells 0 false [pv',.int .i64 s'.cap,.bool s'.cl,sv',gv'])) c s' pv' sv' gv' Fp' Fs' Fg' ∧
  HFrame h (h'.set c (.cells 0 false [pv',.int .i64 s'.cap,.bool s'.cl,sv',gv'])) (c::(Fp++Fs++Fg)) (c::(Fp'++Fs'++Fg')):=by
 have hc:c ∉ Fp++Fs++Fg:=(List.nodup_cons.1 H.nd).1
 have hlt:c<h'.n:=Nat.lt_of_lt_of_le H.lt f.n
 have hc':c ∉ Fp'++Fs'++Fg':=by
  intro hm
  rcases hF' c hm with e | e
  ·rcases f.new c e with e | e
   ·exact hc (hF c e)
   ·exact absurd H.lt (by omega)
  ·exact hc e
 have keep:∀ j,j∈Fp'++Fs'++Fg'→(h'.set c (.cells 0 false [pv',.int .i64 s'.cap,.bool s'.cl,sv',gv'])).get j=h'.get j :=
  fun j hj=>AHeap.get_set_ne _ _ (by intro e;subst e;exact hc' hj)
 have hn:h'.n≤(h'.set c (.cells 0 false [pv',.int .i64 s'.cap,.bool s'.cl,sv',gv'])).n:=by simp
 refine ⟨⟨AHeap.get_set_same _ _ _,by simpa using hlt,p.frame hn fun j hj=>keep j (by simp [hj]),q.frame hn fun j hj=>keep j (by simp [hj]),r.frame hn fun j hj=>keep j (by simp [hj]),List.nodup_cons.2 ⟨hc',nd⟩⟩,?_⟩
 have f1:HFrame h h' (c::(Fp++Fs++Fg)) (c::(Fp'++Fs'++Fg')):=f.wide (fun j hj=>List.mem_cons_of_mem _ (hF j hj)) (fun j hj=>by
  rcases List.mem_cons.1 hj with e | e
  ·exact .inr (by rw [e];exact List.mem_cons_self)
  ·rcases hF' j e with e | e
   ·exact .inl e
   ·exact .inr (List.mem_cons_of_mem _ e)) H.all
 exact f1.trans (HFrame.set h' c _ List.mem_cons_self f1.lt)
theorem nd_mid {A B C D:List Nat} {n:Nat} (nd:(A++B++C).Nodup) (hD:D.Nodup) (hn:∀ j,j∈D→j∈B∨n≤j) (hl:∀ j,j∈A++B++C→j<n):(A++D++C).Nodup:=by
 simp only [List.nodup_append,List.mem_append,ne_eq] at nd ⊢
 obtain ⟨⟨a1,a2,a3⟩,a4,a5⟩:=nd
 refine ⟨⟨a1,hD,fun a ha b hb e=>?_⟩,a4,fun a ha b hb e=>?_⟩
 ·subst e
  rcases hn a hb with q | q
  ·exact a3 a ha a q rfl
  ·have:=hl a (by simp [ha]);omega
 ·subst e
  rcases ha with ha | ha
  ·exact a5 a (.inl ha) a hb rfl
  ·rcases hn a ha with q | q
   ·exact a5 a (.inr q) a hb rfl
   ·have:=hl a (by simp [hb]);omega
theorem ChanIn.setP {h h':AHeap} {c:Nat} {s:CS} {pv sv gv v':AVal} {Fp Fs Fg F':List Nat} {l':List Int} (H:ChanIn h c s pv sv gv Fp Fs Fg) (f:HFrame h h' Fp F') (q:SlOf h' 1 encP v' l' F') :
  ChanIn (h'.set c (.cells 0 false [v',.int .i64 s.cap,.bool s.cl,sv,gv])) c { s with ps:=l' } v' sv gv F' Fs Fg∧HFrame h (h'.set c (.cells 0 false [v',.int .i64 s.cap,.bool s.cl,sv,gv])) (c::(Fp++Fs++Fg)) (c::(F'++Fs++Fg)):=by
 have nd:=(List.nodup_cons.1 H.nd).2
 have hl:∀ j,j∈Fp++Fs++Fg→j<h.n:=fun j hj=>H.all j (List.mem_cons_of_mem _ hj)
 have nd2:=nd_mid (A:=[]) (B:=Fp) (C:=Fs++Fg) (D:=F') (n:=h.n) (by simpa using nd) q.nd f.new (by simpa using hl)
 have out:∀ j,j∈Fs++Fg→j ∉ Fp:=by
  intro j hj hp;simp only [List.append_assoc,List.nodup_append,ne_eq] at nd;exact nd.2.2 j hp j (by simpa using hj) rfl
 exact ChanIn.upd (s':={ s with ps:=l' }) H f (fun j hj=>by simp [hj]) (fun j hj=>by simp only [List.mem_append] at hj ⊢;rcases hj with (hj | hj) | hj<;>simp [hj]) (by simpa using nd2) q
  (H.hs.frame f.n fun j hj=>f.get j (H.hs.lt j hj) (out j (by simp [hj]))) (H.hg.frame f.n fun j hj=>f.get j (H.hg.lt j hj) (out j (by simp [hj])))
theorem ChanIn.setS {h h':AHeap} {c:Nat} {s:CS} {pv sv gv v':AVal} {Fp Fs Fg F':List Nat} {l':List (Int×Int)} (H:ChanIn h c s pv sv gv Fp Fs Fg) (f:HFrame h h' Fs F') (q:SlOf h' 2 encW v' l' F') :
  ChanIn (h'.set c (.cells 0 false [pv,.int .i64 s.cap,.bool s.cl,v',gv])) c { s with ss:=l' } pv v' gv Fp F' Fg∧HFrame h (h'.set c (.cells 0 false [pv,.int .i64 s.cap,.bool s.cl,v',gv])) (c::(Fp++Fs++Fg)) (c::(Fp++F'++Fg)):=by
 have nd:=(List.nodup_cons.1 H.nd).2
 have hl:∀ j,j∈Fp++Fs++Fg→j<h.n:=fun j hj=>H.all j (List.mem_cons_of_mem _ hj)
 have nd2:=nd_mid (A:=Fp) (B:=Fs) (C:=Fg) (D:=F') (n:=h.n) nd q.nd f.new hl
 have nd':=nd
 simp only [List.nodup_append,List.mem_append,ne_eq] at nd'
 obtain ⟨⟨a1,a2,a3⟩,a4,a5⟩:=nd'
 exact ChanIn.upd (s':={ s with ss:=l' }) H f (fun j hj=>by simp [hj]) (fun j hj=>by simp only [List.mem_append] at hj ⊢;rcases hj with (hj | hj) | hj<;>simp [hj]) nd2
  (H.hp.frame f.n fun j hj=>f.get j (H.hp.lt j hj) fun hs=>a3 j hj j hs rfl) q (H.hg.frame f.n fun j hj=>f.get j (H.hg.lt j hj) fun hs=>a5 j (.inr hs) j hj rfl)
theorem ChanIn.setG {h h':AHeap} {c:Nat} {s:CS} {pv sv gv v':AVal} {Fp Fs Fg F':List Nat} {l':List (Int×Int)} (H:ChanIn h c s pv sv gv Fp Fs Fg) (f:HFrame h h' Fg F') (q:SlOf h' 2 encW v' l' F') :
  ChanIn (h'.set c (.cells 0 false [pv,.int .i64 s.cap,.bool s.cl,sv,v'])) c { s with gs:=l' } pv sv v' Fp Fs F'∧HFrame h (h'.set c (.cells 0 false [pv,.int .i64 s.cap,.bool s.cl,sv,v'])) (c::(Fp++Fs++Fg)) (c::(Fp++Fs++F')):=by
 have nd:=(List.nodup_cons.1 H.nd).2
 have hl:∀ j,j∈Fp++Fs++Fg→j<h.n:=fun j hj=>H.all j (List.mem_cons_of_mem _ hj)
 have nd2:=nd_mid (A:=Fp++Fs) (B:=Fg) (C:=[]) (D:=F') (n:=h.n) (by simpa using nd) q.nd f.new (by simpa using hl)
 have nd':=nd
 simp only [List.nodup_append,List.mem_append,ne_eq] at nd'
 obtain ⟨⟨a1,a2,a3⟩,a4,a5⟩:=nd'
 exact ChanIn.upd (s':={ s with gs:=l' }) H f (fun j hj=>by simp [hj]) (fun j hj=>by simp only [List.mem_append] at hj ⊢;rcases hj with (hj | hj) | hj<;>simp [hj]) (by simpa using nd2)
  (H.hp.frame f.n fun j hj=>f.get j (H.hp.lt j hj) fun hs=>a5 j (.inl hj) j hs rfl) (H.hs.frame f.n fun j hj=>f.get j (H.hs.lt j hj) fun hs=>a5 j (.inr hj) j hs rfl) q
theorem queue {h:AHeap} {c:Nat} {s:CS} {F:List Nat} (H:ChanAt h c s F) (id v:Int) (b:Bool) (hr:s.ss.length<1073741824∧s.gs.length<1073741824) :
  CallP AP 111 [.ptr c 0 0,.int .i64 id,.int .u64 v,.bool b] h fun r h'=>∃ F',HFrame h h' F F'∧ChanAt h' c (if b then { s with ss:=s.ss++[(id,v)] } else { s with gs:=s.gs++[(id,0)] }) F':=by
 obtain ⟨pv,sv,gv,Fp,Fs,Fg,H,rfl⟩:=H
 have ho:=H.obj
 have hlt:=H.lt
 have hc:c ∉ Fp++Fs++Fg:=(List.nodup_cons.1 H.nd).1
 refine callP (rfl:Tr.get AP 111=some A111) ?_
 generalize hQ:(fun (r:AVal) (h':AHeap)=>_)=Q
 cases b with
 | true =>
  simp -implicitDefEqProofs (disch:=first|exact dz _|fail) only [↓qJ,qK,qL,qA,qB,qC,qD,qE,↓reduceIte,qG,qH,qI,ho]
  refine opI_of (H.hs.app1 (fun _=>rfl) (fun _=>rfl) (by omega) (id,v) fun v' h' F' s' f=>?_)
  have ho':h'.get c=_:=(f.get c hlt fun e=>hc (by simp [e])).trans ho
  have hlt':c<h'.n:=Nat.lt_of_lt_of_le hlt f.n
  simp -implicitDefEqProofs (disch:=first|exact dz _|fail) only [↓qJ,qK,qL,qA,qB,qC,qD,qE,↓reduceIte,qG,qH,qI,ho']
  have key:=H.setS f s'
  rcases s' with ⟨rfl,_,_⟩ | ⟨_,_,_,_,rfl,_⟩<;>simp -implicitDefEqProofs (disch:=first|exact dz _|fail) only [↓qJ,qK,qL,qA,qB,qC,qD,qE,↓reduceIte,qG,qH,qI,ho']<;>subst hQ<;>exact ⟨_,key.2,_,_,_,_,_,_,key.1,rfl⟩
 | false =>
  simp -implicitDefEqProofs (disch:=first|exact dz _|fail) only [↓qJ,qK,qL,qA,qB,qC,qD,qE,↓reduceIte,qG,qH,qI,ho]
  refine opI_of (H.hg.app1 (fun _=>rfl) (fun _=>rfl) (by omega) (id,0) fun v' h' F' s' f=>?_)
  have ho':h'.get c=_:=(f.get c hlt fun e=>hc (by simp [e])).trans ho
  have hlt':c<h'.n:=Nat.lt_of_lt_of_le hlt f.n
  simp -implicitDefEqProofs (disch:=first|exact dz _|fail) only [↓qJ,qK,qL,qA,qB,qC,qD,qE,↓reduceIte,qG,qH,qI,ho']
  have key:=H.setG f s'
  rcases s' with ⟨rfl,_,_⟩ | ⟨_,_,_,_,rfl,_⟩<;>simp -implicitDefEqProofs (disch:=first|exact dz _|fail) only [↓qJ,qK,qL,qA,qB,qC,qD,qE,↓reduceIte,qG,qH,qI,ho']<;>subst hQ<;>exact ⟨_,key.2,_,_,_,_,_,_,key.1,rfl⟩
end Go.Proofs.Ytnbnpjhlflcjeaa.Id
namespace Go.Proofs.Ytnbnpjhlflcjeaa.Id
open Go Go.AM Go.Proofs.Ytnbnpjhlflcjeaa.AmGF
open Nat renaming reduceAdd → qA,reduceLeDiff → qB,reduceEqDiff → qC,reduceLT → qE
open Int renaming reduceToNat → qD,reduceEq → qG,reduceLT → qH,reduceLE → qI
def CS.send (s:CS) (id v:Int) (w:Bool):(Int×Int)×CS :=
 if s.cl then ((4,0),s) else match s.gs with
  | g::t=>((2,g.1),{ s with gs:=t })
  | []=>if (s.ps.length:Int)<s.cap then ((1,0),{ s with ps:=s.ps++[v] }) else ((3,0),if w then { s with ss:=s.ss++[(id,v)] } else s)
abbrev resV (a b c:Int):AVal:=.agg [.int .i64 a,.int .i64 b,.int .u64 c]
def CS.small (s:CS):Prop:=s.ps.length<1073741824∧s.ss.length<1073741824∧s.gs.length<1073741824
theorem ChanIn.frame {h h':AHeap} {c:Nat} {s:CS} {pv sv gv:AVal} {Fp Fs Fg:List Nat} (H:ChanIn h c s pv sv gv Fp Fs Fg) (hn:h.n≤h'.n) (k:∀ j,j∈c::(Fp++Fs++Fg)→h'.get j=h.get j):ChanIn h' c s pv sv gv Fp Fs Fg :=
 ⟨(k c List.mem_cons_self).trans H.obj,Nat.lt_of_lt_of_le H.lt hn,H.hp.frame hn fun j hj=>k j (by simp [hj]),H.hs.frame hn fun j hj=>k j (by simp [hj]),H.hg.frame hn fun j hj=>k j (by simp [hj]),H.nd⟩
theorem ChanAt.frame {h h':AHeap} {c:Nat} {s:CS} {F:List Nat} (H:ChanAt h c s F) (hn:h.n≤h'.n) (k:∀ j,j∈F→h'.get j=h.get j):ChanAt h' c s F:=by
 obtain ⟨_,_,_,_,_,_,H,rfl⟩:=H
 exact ⟨_,_,_,_,_,_,H.frame hn k,rfl⟩
theorem ChanAt.lt {h:AHeap} {c:Nat} {s:CS} {F:List Nat} (H:ChanAt h c s F):∀ j,j∈F→j<h.n:=by
 obtain ⟨_,_,_,_,_,_,H,rfl⟩:=H
 exact H.all
theorem ChanIn.push {h:AHeap} {c:Nat} {s:CS} {pv sv gv:AVal} {Fp Fs Fg:List Nat} (H:ChanIn h c s pv sv gv Fp Fs Fg) (o:AObj):ChanIn (h.push o) c s pv sv gv Fp Fs Fg :=
 H.frame (by simp) fun j hj=>AHeap.get_push_ne h o (by have:=H.all j hj;omega)
theorem ChanAt.set {h:AHeap} {c:Nat} {s:CS} {F:List Nat} (H:ChanAt h c s F) {i:Nat} (hi:i ∉ F) (o:AObj):ChanAt (h.set i o) c s F :=
 H.frame (by simp) fun j hj=>AHeap.get_set_ne h o (by intro e;subst e;exact hi hj)
theorem ChanAt.push {h:AHeap} {c:Nat} {s:CS} {F:List Nat} (H:ChanAt h c s F) (o:AObj):ChanAt (h.push o) c s F :=
 H.frame (by simp) fun j hj=>AHeap.get_push_ne h o (by have:=H.lt j hj;omega)
theorem ChanIn.at {h:AHeap} {c:Nat} {s:CS} {pv sv gv:AVal} {Fp Fs Fg:List Nat} (H:ChanIn h c s pv sv gv Fp Fs Fg):ChanAt h c s (c::(Fp++Fs++Fg)):=⟨_,_,_,_,_,_,H,rfl⟩
theorem send {h:AHeap} {c:Nat} {s:CS} {F:List Nat} (H:ChanAt h c s F) (id v:Int) (w:Bool) (hr:s.small) :
  CallP AP 105 [.ptr c 0 0,.int .i64 id,.int .u64 v,.bool w] h fun r h'=>r=resV (s.send id v w).1.1 (s.send id v w).1.2 0∧∃ F',HFrame h h' F F'∧ChanAt h' c (s.send id v w).2 F':=by
 obtain ⟨r1,r2,r3⟩:=hr
 have hall:=H.lt
 refine callP (rfl:Tr.get AP 105=some A105) ?_
 generalize hQ:(fun (r:AVal) (h':AHeap)=>_)=Q
 obtain ⟨pv,sv,gv,Fp,Fs,Fg,H0,rfl⟩:=H
 have hlt0:=H0.lt
 have H:=H0.push (.cells 0 false [.int .i64 0,.int .i64 0,.int .u64 0])
 have ho:=H0.obj
 have lp:=H.hp.len
 have lg:=H.hg.len
 have f0:=HFrame.push h (.cells 0 false [.int .i64 0,.int .i64 0,.int .u64 0]) hall
 have hout:h.n ∉ c::(Fp++Fs++Fg):=fun hm=>Nat.lt_irrefl _ (hall _ hm)
 simp -implicitDefEqProofs (disch:=first|exact dz _|fail) only [↓qJ,qK,qL,qA,qB,qC,qD,qE,↓reduceIte,qG,qH,qI,ho]
 refine cI_bool (fun hb=>?_) (fun hb=>?_)
 ·simp -implicitDefEqProofs (disch:=first|exact dz _|fail) only [↓qJ,qK,qL,qA,qB,qC,qD,qE,↓reduceIte,qG,qH,qI,ho]
  subst hQ
  simp only [CS.send,hb,if_true]
  exact ⟨trivial,_,f0.setTmp (Nat.le_refl _) _,H.at.set hout _⟩
 ·obtain ⟨ps,cap,cl,ss,gs⟩:=s
  simp only at hb r1 r2 r3;subst hb
  cases gs with
  | cons g t =>
   have hpos:decide ((0:Int)<((t.length+1:Nat):Int))=true:=by rw [decide_eq_true_eq];omega
   obtain ⟨i,gn,off,vs,x1,x2,x3,x4,x5,x6,x7⟩:=H0.hg.cons (fun _=>rfl)
   have hi2:i≠c:=fun e=>(List.nodup_cons.1 H.nd).1 (by simp [x6,e])
   subst x1
   simp -implicitDefEqProofs (disch:=first|exact dz _|fail) only [↓qJ,qK,qL,qA,qB,qC,qD,qE,↓reduceIte,qG,qH,qI,ho,hpos,x2,x5]
   subst hQ
   have f2:=(((HFrame.refl H0.hg.lt).pushTmp (.cells 0 false [.int .i64 0,.int .i64 0,.int .u64 0])).pushTmp (.cells 0 false [.int .i64 0,.int .u64 0])).setTmp (i:=h.n+1) (by omega) (.cells 0 false (encW g))
   have key:=H0.setG f2 (x7.frame f2.n fun j hj=>by simp only [x6,List.mem_singleton] at hj;subst hj;simp -implicitDefEqProofs (disch:=first|exact dz _|fail) only [↓qJ,qK,qL,qA,qB,qC,qD,qE,↓reduceIte,qG,qH,qI])
   exact ⟨rfl,_,key.2.setTmp (Nat.le_refl _) _,key.1.at.set (fun hm=>hout (by simpa using hm)) _⟩
  | nil =>
   have hpos:decide ((0:Int)<((0:Nat):Int))=false:=rfl
   simp -implicitDefEqProofs (disch:=first|exact dz _|fail) only [↓qJ,qK,qL,qA,qB,qC,qD,qE,↓reduceIte,qG,qH,qI,ho,lg,lp,hpos]
   refine cI_bool (fun hb=>?_) (fun hb=>?_)
   ·simp -implicitDefEqProofs (disch:=first|exact dz _|fail) only [↓qJ,qK,qL,qA,qB,qC,qD,qE,↓reduceIte,qG,qH,qI,ho]
    refine opI_of (H.hp.app1 (fun _=>rfl) (fun _=>rfl) (by show (ps.length+1)*_≤_;omega) v fun v' h' F' s' f=>?_)
    have hc:c ∉ Fp++Fs++Fg:=(List.nodup_cons.1 H.nd).1
    have ho':h'.get c=_:=(f.get c H.lt fun e=>hc (by simp [e])).trans H.obj
    have hlt':c<h'.n:=Nat.lt_of_lt_of_le H.lt f.n
    have hr':h'.get h.n=_:=(f.get h.n (by simp) fun e=>hout (by simp [e])).trans (AHeap.get_push_same _ _)
    have hlr:h.n<h'.n:=Nat.lt_of_lt_of_le (by simp) f.n
    have hne:h.n≠c:=by omega
    have key:=H.setP f s'
    have hout':h.n ∉ c::(F'++Fs++Fg):=key.2.out hout (by simp)
    rcases s' with ⟨rfl,_,_⟩ | ⟨_,_,_,_,rfl,_⟩<;>simp -implicitDefEqProofs (disch:=first|exact dz _|fail) only [↓qJ,qK,qL,qA,qB,qC,qD,qE,↓reduceIte,qG,qH,qI,ho',hr']<;>subst hQ<;>simp only [decide_eq_true_eq] at hb<;>simp only [CS.send,hb,if_true,Bool.false_eq_true,if_false]<;>exact ⟨trivial,_,(f0.trans key.2).setTmp (Nat.le_refl _) _,key.1.at.set hout' _⟩
   ·simp -implicitDefEqProofs (disch:=first|exact dz _|fail) only [↓qJ,qK,qL,qA,qB,qC,qD,qE,↓reduceIte,qG,qH,qI,ho]
    simp only [decide_eq_false_iff_not] at hb
    refine cI_bool (fun hw=>?_) (fun hw=>?_)
    ·subst hw
     simp -implicitDefEqProofs (disch:=first|exact dz _|fail) only [↓qJ,qK,qL,qA,qB,qC,qD,qE,↓reduceIte,qG,qH,qI,ho]
     refine callI_of (queue H.at id v true ⟨r2,r3⟩) ?_
     rintro r h' ⟨F',f,H'⟩
     have hr':h'.get h.n=_:=(f.get h.n (by simp) hout).trans (AHeap.get_push_same _ _)
     have hlr:h.n<h'.n:=Nat.lt_of_lt_of_le (by simp) f.n
     simp -implicitDefEqProofs (disch:=first|exact dz _|fail) only [↓qJ,qK,qL,qA,qB,qC,qD,qE,↓reduceIte,qG,qH,qI,hr']
     subst hQ
     simp only [CS.send,hb,if_true,Bool.false_eq_true,if_false]
     exact ⟨trivial,_,(f0.trans f).setTmp (Nat.le_refl _) _,H'.set (f.out hout (by simp)) _⟩
    ·subst hw
     simp -implicitDefEqProofs (disch:=first|exact dz _|fail) only [↓qJ,qK,qL,qA,qB,qC,qD,qE,↓reduceIte,qG,qH,qI,ho]
     subst hQ
     simp only [CS.send,hb,if_true,Bool.false_eq_true,if_false]
     exact ⟨trivial,_,f0.setTmp (Nat.le_refl _) _,H.at.set hout _⟩
end Go.Proofs.Ytnbnpjhlflcjeaa.Id
namespace Go.Proofs.Ytnbnpjhlflcjeaa.Id
open Go Go.AM Go.Proofs.Ytnbnpjhlflcjeaa.AmGF
open Nat renaming reduceAdd → qA,reduceLeDiff → qB,reduceEqDiff → qC,reduceLT → qE
open Int renaming reduceToNat → qD,reduceEq → qG,reduceLT → qH,reduceLE → qI
def CS.recv (s:CS) (id:Int) (w:Bool):(Int×Int×Int)×CS :=
 match s.ps with
 | p::t=>match s.ss with
  | x::u=>((2,x.1,p),{ s with ps:=t++[x.2],ss:=u })
  | []=>((1,0,p),{ s with ps:=t })
 | []=>match s.ss with
  | x::u=>((2,x.1,x.2),{ s with ss:=u })
  | []=>if s.cl then ((4,0,0),s) else ((3,0,0),if w then { s with gs:=s.gs++[(id,0)] } else s)
theorem recv {h:AHeap} {c:Nat} {s:CS} {F:List Nat} (H:ChanAt h c s F) (id:Int) (w:Bool) (hr:s.small) :
  CallP AP 106 [.ptr c 0 0,.int .i64 id,.bool w] h fun r h'=>r=resV (s.recv id w).1.1 (s.recv id w).1.2.1 (s.recv id w).1.2.2∧∃ F',HFrame h h' F F'∧ChanAt h' c (s.recv id w).2 F':=by
 obtain ⟨r1,r2,r3⟩:=hr
 have hall:=H.lt
 refine callP (rfl:Tr.get AP 106=some A106) ?_
 generalize hQ:(fun (r:AVal) (h':AHeap)=>_)=Q
 obtain ⟨pv,sv,gv,Fp,Fs,Fg,H0,rfl⟩:=H
 have hlt0:=H0.lt
 have ho:=H0.obj
 have lp:=H0.hp.len
 have ls:=H0.hs.len
 have hout:h.n ∉ c::(Fp++Fs++Fg):=fun hm=>Nat.lt_irrefl _ (hall _ hm)
 have hcout:c ∉ Fp++Fs++Fg:=(List.nodup_cons.1 H0.nd).1
 have hz:decide ((0:Int)<((0:Nat):Int))=false:=rfl
 obtain ⟨ps,cap,cl,ss,gs⟩:=s
 simp only at r1 r2 r3
 cases ps with
 | cons p t =>
  have hpos:decide ((0:Int)<((t.length+1:Nat):Int))=true:=by rw [decide_eq_true_eq];omega
  obtain ⟨i,gn,off,vs,x1,x2,x3,x4,x5,x6,x7⟩:=H0.hp.cons (fun _=>rfl)
  have hi2:i≠c:=fun e=>hcout (by simp [x6,e])
  have x5':=one_of x5
  subst x1
  cases ss with
  | nil =>
   simp -implicitDefEqProofs (disch:=first|exact dz _|fail) only [↓qJ,qK,qL,qA,qB,qC,qD,qE,↓reduceIte,qG,qH,qI,ho,hpos,x2,x5',ls,hz]
   subst hQ
   have f2:=(((HFrame.refl H0.hp.lt).pushTmp (.cells 0 false [.int .i64 0,.int .i64 0,.int .u64 0])).pushTmp (.cells 0 false [.int .i64 0,.int .i64 0,.int .u64 0])).setTmp (i:=h.n+1) (by omega) (.cells 0 false [.int .i64 1,.int .i64 0,.int .u64 p])
   have key:=H0.setP f2 (x7.frame f2.n fun j hj=>by simp only [x6,List.mem_singleton] at hj;subst hj;simp -implicitDefEqProofs (disch:=first|exact dz _|fail) only [↓qJ,qK,qL,qA,qB,qC,qD,qE,↓reduceIte,qG,qH,qI])
   exact ⟨rfl,_,key.2.setTmp (Nat.le_refl _) _,key.1.at.set (fun hm=>hout (by simpa using hm)) _⟩
  | cons x u =>
   have hpos2:decide ((0:Int)<((u.length+1:Nat):Int))=true:=by rw [decide_eq_true_eq];omega
   obtain ⟨i',gn',off',vs',z1,z2,z3,z4,z5,z6,z7⟩:=H0.hs.cons (fun _=>rfl)
   have hi3:i'≠c:=fun e=>hcout (by simp [z6,e])
   subst z1
   have f1:=(((HFrame.refl H0.hp.lt).pushTmp (.cells 0 false [.int .i64 0,.int .i64 0,.int .u64 0])).pushTmp (.cells 0 false [.int .i64 0,.int .i64 0,.int .u64 0])).setTmp (i:=h.n+1) (by omega) (.cells 0 false [.int .i64 1,.int .i64 0,.int .u64 p])
   have key1:=H0.setP f1 (x7.frame f1.n fun j hj=>by simp only [x6,List.mem_singleton] at hj;subst hj;simp -implicitDefEqProofs (disch:=first|exact dz _|fail) only [↓qJ,qK,qL,qA,qB,qC,qD,qE,↓reduceIte,qG,qH,qI])
   have f3:=((HFrame.refl key1.1.hs.lt).pushTmp (.cells 0 false [.int .i64 0,.int .u64 0])).setTmp (i:=h.n+1+1) (by simp) (.cells 0 false (encW x))
   have key2:=key1.1.setS f3 (z7.frame (Nat.le_trans key1.2.n f3.n) fun j hj=>by simp only [z6,List.mem_singleton] at hj;subst hj;simp -implicitDefEqProofs (disch:=first|exact dz _|fail) only [↓qJ,qK,qL,qA,qB,qC,qD,qE,↓reduceIte,qG,qH,qI])
   have fa:=key1.2.trans key2.2
   simp -implicitDefEqProofs (disch:=first|exact dz _|fail) only [↓qJ,qK,qL,qA,qB,qC,qD,qE,↓reduceIte,qG,qH,qI,ho,hpos,x2,x5',z2,z5,hpos2]
   refine trOp_of (key2.1.hp.app1 (fun _=>rfl) (fun _=>rfl) (by simp only [List.length_cons] at r1;show (t.length+1)*8≤_;omega) x.2 fun v' h' F' s' f=>?_)
   have ho':h'.get c=_:=(f.get c key2.1.lt fun e=>hcout (by simp [e])).trans key2.1.obj
   have hlt':c<h'.n:=Nat.lt_of_lt_of_le key2.1.lt f.n
   have hF:∀ j,h.n≤j→j ∉ c::(Fp++Fs++Fg):=fun j hj hm=>by have:=hall j hm;omega
   have hP:∀ j,h.n≤j→j ∉ Fp:=fun j hj hm=>hF j hj (by simp [hm])
   have hn':h.n+3≤h'.n:=Nat.le_trans (by simp) f.n
   have hr0:h'.get h.n=.cells 0 false [.int .i64 0,.int .i64 0,.int .u64 0]:=(f.get h.n (by simp;omega) (hP _ (by omega))).trans (by simp -implicitDefEqProofs (disch:=first|exact dz _|fail) only [↓qJ,qK,qL,qA,qB,qC,qD,qE,↓reduceIte,qG,qH,qI])
   have hr1:h'.get (h.n+1)=.cells 0 false [.int .i64 1,.int .i64 0,.int .u64 p]:=(f.get (h.n+1) (by simp) (hP _ (by omega))).trans (by simp -implicitDefEqProofs (disch:=first|exact dz _|fail) only [↓qJ,qK,qL,qA,qB,qC,qD,qE,↓reduceIte,qG,qH,qI])
   have hr2:h'.get (h.n+1+1)=.cells 0 false (encW x):=(f.get (h.n+1+1) (by simp) (hP _ (by omega))).trans (by simp -implicitDefEqProofs (disch:=first|exact dz _|fail) only [↓qJ,qK,qL,qA,qB,qC,qD,qE,↓reduceIte,qG,qH,qI])
   have key3:=key2.1.setP f s'
   have ho0:=fun j hj hlt=>key3.2.out (hF j hj) hlt
   rcases s' with ⟨rfl,_,_⟩ | ⟨_,_,_,_,rfl,_⟩<;>simp -implicitDefEqProofs (disch:=first|exact dz _|fail) only [↓qJ,qK,qL,qA,qB,qC,qD,qE,↓reduceIte,qG,qH,qI,ho',hr0,hr1,hr2]
   all_goals
    subst hQ
    exact ⟨rfl,_,(((fa.trans key3.2).setTmp (by omega) _).setTmp (by omega) _).setTmp (Nat.le_refl _) _,((key3.1.at.set (ho0 _ (by omega) (by simp)) _).set (ho0 _ (by omega) (by simp)) _).set (ho0 _ (by omega) (by simp;omega)) _⟩
 | nil =>
  cases ss with
  | nil =>
   simp -implicitDefEqProofs (disch:=first|exact dz _|fail) only [↓qJ,qK,qL,qA,qB,qC,qD,qE,↓reduceIte,qG,qH,qI,ho,lp,ls,hz]
   refine cI_bool (fun hb=>?_) (fun hb=>?_)
   ·subst hb
    simp -implicitDefEqProofs (disch:=first|exact dz _|fail) only [↓qJ,qK,qL,qA,qB,qC,qD,qE,↓reduceIte,qG,qH,qI,ho]
    subst hQ
    exact ⟨rfl,_,(HFrame.push h _ hall).setTmp (Nat.le_refl _) _,(H0.at.push _).set hout _⟩
   ·subst hb
    simp -implicitDefEqProofs (disch:=first|exact dz _|fail) only [↓qJ,qK,qL,qA,qB,qC,qD,qE,↓reduceIte,qG,qH,qI,ho]
    refine cI_bool (fun hw=>?_) (fun hw=>?_)
    ·subst hw
     simp -implicitDefEqProofs (disch:=first|exact dz _|fail) only [↓qJ,qK,qL,qA,qB,qC,qD,qE,↓reduceIte,qG,qH,qI,ho]
     refine callI_of (queue (H0.at.push _) id 0 false ⟨r2,r3⟩) ?_
     rintro r h' ⟨F',f,H'⟩
     have hr':h'.get h.n=_:=(f.get h.n (by simp) hout).trans (AHeap.get_push_same _ _)
     have hlr:h.n<h'.n:=Nat.lt_of_lt_of_le (by simp) f.n
     simp -implicitDefEqProofs (disch:=first|exact dz _|fail) only [↓qJ,qK,qL,qA,qB,qC,qD,qE,↓reduceIte,qG,qH,qI,hr']
     subst hQ
     exact ⟨rfl,_,((HFrame.push h _ hall).trans f).setTmp (Nat.le_refl _) _,H'.set (f.out hout (by simp)) _⟩
    ·subst hw
     simp -implicitDefEqProofs (disch:=first|exact dz _|fail) only [↓qJ,qK,qL,qA,qB,qC,qD,qE,↓reduceIte,qG,qH,qI,ho]
     subst hQ
     exact ⟨rfl,_,(HFrame.push h _ hall).setTmp (Nat.le_refl _) _,(H0.at.push _).set hout _⟩
  | cons x u =>
   have hpos2:decide ((0:Int)<((u.length+1:Nat):Int))=true:=by rw [decide_eq_true_eq];omega
   obtain ⟨i',gn',off',vs',z1,z2,z3,z4,z5,z6,z7⟩:=H0.hs.cons (fun _=>rfl)
   have hi3:i'≠c:=fun e=>hcout (by simp [z6,e])
   subst z1
   simp -implicitDefEqProofs (disch:=first|exact dz _|fail) only [↓qJ,qK,qL,qA,qB,qC,qD,qE,↓reduceIte,qG,qH,qI,ho,lp,hz,z2,z5,hpos2]
   subst hQ
   have f2:=(((HFrame.refl H0.hs.lt).pushTmp (.cells 0 false [.int .i64 0,.int .i64 0,.int .u64 0])).pushTmp (.cells 0 false [.int .i64 0,.int .u64 0])).setTmp (i:=h.n+1) (by omega) (.cells 0 false (encW x))
   have key:=H0.setS f2 (z7.frame f2.n fun j hj=>by simp only [z6,List.mem_singleton] at hj;subst hj;simp -implicitDefEqProofs (disch:=first|exact dz _|fail) only [↓qJ,qK,qL,qA,qB,qC,qD,qE,↓reduceIte,qG,qH,qI])
   exact ⟨rfl,_,key.2.setTmp (Nat.le_refl _) _,key.1.at.set (fun hm=>hout (by simpa using hm)) _⟩
end Go.Proofs.Ytnbnpjhlflcjeaa.Id
namespace Go.Proofs.Ytnbnpjhlflcjeaa.Id
open Go Go.AM Go.Proofs.Ytnbnpjhlflcjeaa.AmGF
open Nat renaming reduceAdd → qA,reduceLeDiff → qB,reduceEqDiff → qC,reduceLT → qE
open Int renaming reduceToNat → qD,reduceEq → qG,reduceLT → qH,reduceLE → qI
abbrev keepW (id:Int) (l:List (Int×Int)):List (Int×Int):=l.filter fun p=>!decide (p.1=id)
theorem without {h:AHeap} {v:AVal} {l:List (Int×Int)} (H:SlRd h 2 encW v l) (id:Int) (hr:l.length<1073741824) :
  CallP AP 112 [v,.int .i64 id] h fun r h'=>∃ F',SlOf h' 2 encW r (keepW id l) F'∧HFrame h h' [] F':=by
 refine callP (rfl:Tr.get AP 112=some A112) ?_
 generalize hQ:(fun (r:AVal) (h':AHeap)=>_)=Q
 have hl:=H.len
 simp -implicitDefEqProofs (disch:=first|exact dz _|fail) only [↓qJ,qK,qL,qA,qB,qC,qD,qE,↓reduceIte,qG,qH,qI,hl]
 refine loopI_of (fun k e h'=>∃ (i:Nat) (rv:AVal) (F':List Nat),k+i=l.length∧e.val 8=v∧e.val 9=.int .i64 l.length∧e.val 10=.int .i64 i∧e.val 1=.int .i64 id∧e.val 5=rv∧SlOf h' 2 encW rv (keepW id (l.take i)) F'∧HFrame h h' [] F') l.length ?_ ?_
 ·refine ⟨0,.nils,[],by simp,?_,?_,?_,?_,?_,SlOf.nil,HFrame.refl (by simp)⟩<;>simp -implicitDefEqProofs (disch:=first|exact dz _|fail) only [↓qJ,qK,qL,qA,qB,qC,qD,qE,↓reduceIte,qG,qH,qI]<;>rfl
 ·rintro k e h' ⟨i,rv,F',hk,e8,e9,e10,e1,e5,hS,hf⟩
  simp -implicitDefEqProofs (disch:=first|exact dz _|fail) only [↓qJ,qK,qL,qA,qB,qC,qD,qE,↓reduceIte,qG,qH,qI,e8,e9,e10,e1,e5]
  refine cI_bool (fun hb=>?_) (fun hb=>?_)
  ·simp only [decide_eq_true_eq] at hb
   have hi:i<l.length:=by omega
   obtain ⟨a,ha⟩:∃ a,l[i]?=some a:=⟨_,List.getElem?_eq_getElem hi⟩
   obtain ⟨j,g,off,vs,ro,x1,x2,x3,x4,x5⟩:=(H.keep hf).ix (fun _=>rfl) ha .i64
   simp -implicitDefEqProofs (disch:=first|exact dz _|fail) only [↓qJ,qK,qL,qA,qB,qC,qD,qE,↓reduceIte,qG,qH,qI,e8,e9,e10,e1,e5,x1,x2,x5]
   have hw:IntKind.i64.wrap ((i:Int)+1)=((i+1:Nat):Int):=wrap64 (by omega) (by omega)
   have g2:=(hf.pushTmp (.cells 0 false [.int .i64 0,.int .u64 0])).setTmp (i:=h'.n) hf.n (.cells 0 false (encW a))
   have hS2:=hS.tmp (.cells 0 false [.int .i64 0,.int .u64 0]) (.cells 0 false (encW a))
   have hlen:(keepW id (l.take i)).length≤i:=Nat.le_trans (List.length_filter_le _ _) (by simp;omega)
   refine cI_bool (fun hc=>?_) (fun hc=>?_)
   ·simp -implicitDefEqProofs (disch:=first|exact dz _|fail) only [↓qJ,qK,qL,qA,qB,qC,qD,qE,↓reduceIte,qG,qH,qI,e8,e9,e10,e1,e5]
    refine opI_of (hS2.app1 (fun _=>rfl) (fun _=>rfl) (by omega) a fun v' h'' F'' s'' f''=>?_)
    simp -implicitDefEqProofs (disch:=first|exact dz _|fail) only [↓qJ,qK,qL,qA,qB,qC,qD,qE,↓reduceIte,qG,qH,qI,e8,e9,e10,e1,e5,hw]
    refine ⟨l.length-(i+1),by omega,i+1,v',F'',by omega,rfl,rfl,?_,g2.trans f''⟩
    rw [take_succ_of ha,keepW,List.filter_append]
    simp only [List.filter_cons,hc,List.filter_nil]
    exact s''
   ·simp -implicitDefEqProofs (disch:=first|exact dz _|fail) only [↓qJ,qK,qL,qA,qB,qC,qD,qE,↓reduceIte,qG,qH,qI,e8,e9,e10,e1,e5,hw]
    refine ⟨l.length-(i+1),by omega,i+1,rv,F',by omega,rfl,rfl,?_,g2⟩
    rw [take_succ_of ha,keepW,List.filter_append]
    simp only [List.filter_cons,hc,List.filter_nil]
    simpa using hS2
  ·simp -implicitDefEqProofs (disch:=first|exact dz _|fail) only [↓qJ,qK,qL,qA,qB,qC,qD,qE,↓reduceIte,qG,qH,qI,e8,e9,e10,e1,e5]
   simp only [decide_eq_false_iff_not] at hb
   have:i=l.length:=by omega
   subst this
   rw [List.take_length] at hS
   subst hQ
   exact ⟨F',hS,hf⟩
end Go.Proofs.Ytnbnpjhlflcjeaa.Id
namespace Go.Proofs.Ytnbnpjhlflcjeaa.Id
open Go Go.AM Go.Proofs.Ytnbnpjhlflcjeaa.AmGF
open Nat renaming reduceAdd → qA,reduceLeDiff → qB,reduceEqDiff → qC,reduceLT → qE
open Int renaming reduceToNat → qD,reduceEq → qG,reduceLT → qH,reduceLE → qI
theorem ChanIn.upd2 {h h':AHeap} {c:Nat} {s s':CS} {pv sv gv pv' sv' gv':AVal} {Fp Fs Fg Fp' Fs' Fg':List Nat} (H:ChanIn h c s pv sv gv Fp Fs Fg)
  (f:HFrame h h' (c::(Fp++Fs++Fg)) (c::(Fp'++Fs'++Fg'))) (nd:(c::(Fp'++Fs'++Fg')).Nodup)
  (p:SlOf h' 1 encP pv' s'.ps Fp') (q:SlOf h' 2 encW sv' s'.ss Fs') (r:SlOf h' 2 encW gv' s'.gs Fg') :
  ChanIn (h'.set c (.cells 0 false [pv',.int .i64 s'.cap,.bool s'.cl,sv',gv'])) c s' pv' sv' gv' Fp' Fs' Fg' ∧
  HFrame h (h'.set c (.cells 0 false [pv',.int .i64 s'.cap,.bool s'.cl,sv',gv'])) (c::(Fp++Fs++Fg)) (c::(Fp'++Fs'++Fg')):=by
 have hc':c ∉ Fp'++Fs'++Fg':=(List.nodup_cons.1 nd).1
 exact ⟨⟨AHeap.get_set_same _ _ _,Nat.lt_of_lt_of_le H.lt f.n,p.set (fun e=>hc' (by simp [e])) _,q.set (fun e=>hc' (by simp [e])) _,r.set (fun e=>hc' (by simp [e])) _,nd⟩,
  f.trans (HFrame.set h' c _ List.mem_cons_self f.lt)⟩
theorem leave {h:AHeap} {c:Nat} {s:CS} {F:List Nat} (H:ChanAt h c s F) (id:Int) (hr:s.small) :
  CallP AP 110 [.ptr c 0 0,.int .i64 id] h fun r h'=>∃ F',HFrame h h' F F'∧ChanAt h' c { s with ss:=keepW id s.ss,gs:=keepW id s.gs } F':=by
 obtain ⟨r1,r2,r3⟩:=hr
 have hall:=H.lt
 refine callP (rfl:Tr.get AP 110=some A110) ?_
 generalize hQ:(fun (r:AVal) (h':AHeap)=>_)=Q
 obtain ⟨pv,sv,gv,Fp,Fs,Fg,H0,rfl⟩:=H
 have hlt0:=H0.lt
 have ho:=H0.obj
 simp -implicitDefEqProofs (disch:=first|exact dz _|fail) only [↓qJ,qK,qL,qA,qB,qC,qD,qE,↓reduceIte,qG,qH,qI,ho]
 refine trCall_of (without H0.hs.rd id r2) ?_
 rintro v1 h1 ⟨F1,q1,f1⟩
 have ho1:=(f1.get c hlt0 (by simp)).trans ho
 have hlt1:c<h1.n:=Nat.lt_of_lt_of_le hlt0 f1.n
 simp -implicitDefEqProofs (disch:=first|exact dz _|fail) only [↓qJ,qK,qL,qA,qB,qC,qD,qE,↓reduceIte,qG,qH,qI,ho1]
 refine trCall_of (without (H0.hg.rd.keep f1) id r3) ?_
 rintro v2 h2 ⟨F2,q2,f2⟩
 have ho2:=(f2.get c hlt1 (by simp)).trans ho1
 have hlt2:c<h2.n:=Nat.lt_of_lt_of_le hlt1 f2.n
 have hgb:=H0.hg.beq
 obtain ⟨d1,d2⟩:=q1.rd.cells
 obtain ⟨d3,d4⟩:=q2.rd.cells
 simp -implicitDefEqProofs (disch:=first|exact dz _|fail) only [↓qJ,qK,qL,qA,qB,qC,qD,qE,↓reduceIte,qG,qH,qI,ho2,ho1,ho,d1,d2,d3,d4,hgb]
 have n1:∀ j,j∈F1→h.n≤j∧j<h1.n:=fun j hj=>⟨by rcases f1.new j hj with e | e;cases e;exact e,f1.lt j hj⟩
 have n2:∀ j,j∈F2→h1.n≤j:=fun j hj=>by rcases f2.new j hj with e | e;cases e;exact e
 have q1':=q1.frame f2.n fun j hj=>f2.get j (n1 j hj).2 (by simp)
 have nd:(c::(Fp++F1++F2)).Nodup:=by
  have hp:=H0.hp.nd
  have:=H0.nd
  simp only [List.nodup_cons,List.mem_append,List.nodup_append,ne_eq,not_or] at this ⊢
  refine ⟨⟨⟨this.1.1.1,fun e=>?_⟩,fun e=>?_⟩,⟨hp,q1.nd,fun a ha b hb e=>?_⟩,q2.nd,fun a ha b hb e=>?_⟩
  ·have:=n1 _ e;omega
  ·have:=n2 _ e;omega
  ·subst e;have:=n1 _ hb;have:=H0.hp.lt _ ha;omega
  ·subst e
   have e2:=n2 _ hb
   rcases ha with ha | ha
   ·have:=H0.hp.lt _ ha;have:=f1.n;omega
   ·have:=n1 _ ha;omega
 have hc':c ∉ Fp++F1++F2:=(List.nodup_cons.1 nd).1
 have fa:HFrame h h2 (c::(Fp++Fs++Fg)) (c::(Fp++F1++F2)):=by
  refine ⟨Nat.le_trans f1.n f2.n,f2.g.trans f1.g,fun j hj hn=>(f2.get j (Nat.lt_of_lt_of_le hj f1.n) (by simp)).trans (f1.get j hj (by simp)),fun j hj=>?_,fun j hj=>?_⟩
  ·simp only [List.mem_cons,List.mem_append] at hj ⊢
   rcases hj with e | (e | e) | e
   ·exact .inl (.inl e)
   ·exact .inl (.inr (.inl (.inl e)))
   ·exact .inr (n1 j e).1
   ·exact .inr (Nat.le_trans f1.n (n2 j e))
  ·simp only [List.mem_cons,List.mem_append] at hj
   rcases hj with e | (e | e) | e
   ·rw [e];exact hlt2
   ·exact Nat.lt_of_lt_of_le (H0.hp.lt j e) (Nat.le_trans f1.n f2.n)
   ·exact Nat.lt_of_lt_of_le (n1 j e).2 f2.n
   ·exact f2.lt j e
 have p':=H0.hp.frame (Nat.le_trans f1.n f2.n) fun j hj=>(f2.get j (Nat.lt_of_lt_of_le (H0.hp.lt j hj) f1.n) (by simp)).trans (f1.get j (H0.hp.lt j hj) (by simp))
 have fb:=fa.trans (HFrame.set h2 c (.cells 0 false [pv,.int .i64 s.cap,.bool s.cl,v1,gv]) List.mem_cons_self fa.lt)
 have key:=ChanIn.upd2 (s':={ s with ss:=keepW id s.ss,gs:=keepW id s.gs }) H0 fb nd (p'.set (fun e=>hc' (by simp [e])) _) (q1'.set (fun e=>hc' (by simp [e])) _) (q2.set (fun e=>hc' (by simp [e])) _)
 subst hQ
 exact ⟨_,key.2,key.1.at⟩
theorem new (h:AHeap) (n:Int) :
  CallP AP 91 [.int .i64 n] h fun r h'=>(if n<0∨16<n then r=.tup [.nilp,.int .i64 1]∧h'=h else
   r=.tup [.ptr h.n 0 0,.int .i64 0]∧h'=h.push (.cells 0 false [.nils,.int .i64 n,.bool false,.nils,.nils])):=by
 refine callP (rfl:Tr.get AP 91=some A91) ?_
 generalize hQ:(fun (r:AVal) (h':AHeap)=>_)=Q
 simp -implicitDefEqProofs (disch:=first|exact dz _|fail) only [↓qJ,qK,qL,qA,qB,qC,qD,qE,↓reduceIte,qG,qH,qI]
 refine AM.gI_bool (fun hb=>?_) (fun hb=>?_)
 ·simp -implicitDefEqProofs (disch:=first|exact dz _|fail) only [↓qJ,qK,qL,qA,qB,qC,qD,qE,↓reduceIte,qG,qH,qI,hb]
  subst hQ
  simp only [decide_eq_true_eq] at hb
  simp [hb]
 ·simp -implicitDefEqProofs (disch:=first|exact dz _|fail) only [↓qJ,qK,qL,qA,qB,qC,qD,qE,↓reduceIte,qG,qH,qI,hb]
  simp only [decide_eq_false_iff_not] at hb
  refine cI_bool (fun hc=>?_) (fun hc=>?_)
  ·simp -implicitDefEqProofs (disch:=first|exact dz _|fail) only [↓qJ,qK,qL,qA,qB,qC,qD,qE,↓reduceIte,qG,qH,qI]
   subst hQ
   simp only [decide_eq_true_eq] at hc
   simp [hb,hc]
  ·simp -implicitDefEqProofs (disch:=first|exact dz _|fail) only [↓qJ,qK,qL,qA,qB,qC,qD,qE,↓reduceIte,qG,qH,qI]
   subst hQ
   simp only [decide_eq_false_iff_not] at hc
   simp [hb,hc]
theorem chan0 (h:AHeap) (n:Int):ChanAt (h.push (.cells 0 false [.nils,.int .i64 n,.bool false,.nils,.nils])) h.n ⟨[],n,false,[],[]⟩ [h.n] :=
 ⟨.nils,.nils,.nils,[],[],[],⟨AHeap.get_push_same _ _,by simp,SlOf.nil,SlOf.nil,SlOf.nil,by simp⟩,rfl⟩
def CS.ready (s:CS) (b:Bool):Bool:=s.cl||(if b then decide (0<s.gs.length)||decide ((s.ps.length:Int)<s.cap) else decide (0<s.ss.length)||decide (0<s.ps.length))
theorem ready {h:AHeap} {c:Nat} {s:CS} {F:List Nat} (H:ChanAt h c s F) (b:Bool) :
  CallP AP 107 [.ptr c 0 0,.bool b] h fun r h'=>r=.bool (s.ready b)∧h'=h:=by
 refine callP (rfl:Tr.get AP 107=some A107) ?_
 generalize hQ:(fun (r:AVal) (h':AHeap)=>_)=Q
 obtain ⟨pv,sv,gv,Fp,Fs,Fg,H0,rfl⟩:=H
 have hlt0:=H0.lt
 have ho:=H0.obj
 have lp:=H0.hp.len
 have ls:=H0.hs.len
 have lg:=H0.hg.len
 cases b
 all_goals
  simp -implicitDefEqProofs (disch:=first|exact dz _|fail) only [↓qJ,qK,qL,qA,qB,qC,qD,qE,↓reduceIte,qG,qH,qI,ho,lp,ls,lg]
  refine AM.gI_bool (fun hb=>?_) (fun hb=>?_)
  ·simp -implicitDefEqProofs (disch:=first|exact dz _|fail) only [↓qJ,qK,qL,qA,qB,qC,qD,qE,↓reduceIte,qG,qH,qI,hb]
   subst hQ
   simp [CS.ready,hb]
  ·simp -implicitDefEqProofs (disch:=first|exact dz _|fail) only [↓qJ,qK,qL,qA,qB,qC,qD,qE,↓reduceIte,qG,qH,qI,hb,ho,lp,ls,lg]
   refine AM.gI_bool (fun hc=>?_) (fun hc=>?_)
   ·simp -implicitDefEqProofs (disch:=first|exact dz _|fail) only [↓qJ,qK,qL,qA,qB,qC,qD,qE,↓reduceIte,qG,qH,qI,hb,hc]
    subst hQ
    simp only [decide_eq_true_eq] at hc
    simp only [CS.ready,hb]
    simp
    omega
   ·simp -implicitDefEqProofs (disch:=first|exact dz _|fail) only [↓qJ,qK,qL,qA,qB,qC,qD,qE,↓reduceIte,qG,qH,qI,hb,hc,ho,lp,ls,lg]
    subst hQ
    simp only [decide_eq_false_iff_not] at hc
    have:s.ready=s.ready:=rfl
    simp only [CS.ready,hb]
    simp
    try omega
end Go.Proofs.Ytnbnpjhlflcjeaa.Id
namespace Go.Proofs.Ytnbnpjhlflcjeaa.Id
open Go Go.AM Go.Proofs.Ytnbnpjhlflcjeaa.AmGF
open Nat renaming reduceAdd → qA,reduceLeDiff → qB,reduceEqDiff → qC,reduceLT → qE
open Int renaming reduceToNat → qD,reduceEq → qG,reduceLT → qH,reduceLE → qI
abbrev encI (n:Int):List AVal:=[.int .i64 n]
theorem close {h:AHeap} {c:Nat} {s:CS} {F:List Nat} (H:ChanAt h c s F) (hr:s.small) (hb:s.cl=false) :
  CallP AP 103 [.ptr c 0 0] h fun r h'=>∃ lv Fl,r=.tup [lv,.bool true]∧SlOf h' 1 encI lv (s.gs.map (·.1)++s.ss.map (·.1)) Fl∧(∀ j,j∈Fl→h.n≤j) ∧
   ∃ F',HFrame h h' F F'∧ChanAt h' c { s with cl:=true,ss:=[],gs:=[] } F'∧∀ j,j∈F'→j∈F:=by
 obtain ⟨r1,r2,r3⟩:=hr
 have hall:=H.lt
 refine callP (rfl:Tr.get AP 103=some A103) ?_
 generalize hQ:(fun (r:AVal) (h':AHeap)=>_)=Q
 obtain ⟨pv,sv,gv,Fp,Fs,Fg,H0,rfl⟩:=H
 obtain ⟨ps,cap,cl,ss,gs⟩:=s
 simp only at hb r1 r2 r3
 subst hb
 have hlt0:=H0.lt
 have ho:=H0.obj
 have ls:=H0.hs.len
 have lg:=H0.hg.len
 have hcout:c ∉ Fp++Fs++Fg:=(List.nodup_cons.1 H0.nd).1
 simp -implicitDefEqProofs (disch:=first|exact dz _|fail) only [↓qJ,qK,qL,qA,qB,qC,qD,qE,↓reduceIte,qG,qH,qI,ho,ls,lg]
 refine loopI_of (fun k e h'=>∃ (i:Nat) (rv:AVal) (F':List Nat),k+i=gs.length∧e.val 0=.ptr c 0 0∧e.val 23=gv∧e.val 24=.int .i64 gs.length∧e.val 25=.int .i64 i∧e.val 4=rv∧SlOf h' 1 encI rv ((gs.take i).map (·.1)) F'∧HFrame (h.set c (.cells 0 false [pv,.int .i64 cap,.bool true,sv,gv])) h' [] F') gs.length ?_ ?_
 ·refine ⟨0,.nils,[],by simp,?_,?_,?_,?_,?_,SlOf.nil,HFrame.refl (by simp)⟩<;>simp -implicitDefEqProofs (disch:=first|exact dz _|fail) only [↓qJ,qK,qL,qA,qB,qC,qD,qE,↓reduceIte,qG,qH,qI]<;>rfl
 ·rintro k e h' ⟨i,rv,F',hk,e0,e8,e9,e10,e5,hS,hf⟩
  have G:=H0.hg.set (i:=c) (fun e=>hcout (by simp [e])) (.cells 0 false [pv,.int .i64 cap,.bool true,sv,gv])
  have S':=H0.hs.set (i:=c) (fun e=>hcout (by simp [e])) (.cells 0 false [pv,.int .i64 cap,.bool true,sv,gv])
  simp -implicitDefEqProofs (disch:=first|exact dz _|fail) only [↓qJ,qK,qL,qA,qB,qC,qD,qE,↓reduceIte,qG,qH,qI,e0,e8,e9,e10,e5]
  refine cI_bool (fun hb=>?_) (fun hb=>?_)
  ·simp only [decide_eq_true_eq] at hb
   have hi:i<gs.length:=by omega
   obtain ⟨a,ha⟩:∃ a,gs[i]?=some a:=⟨_,List.getElem?_eq_getElem hi⟩
   obtain ⟨j,g,off,vs,ro,x1,x2,x3,x4,x5⟩:=(G.rd.keep hf).ix (fun _=>rfl) ha .i64
   have hw:IntKind.i64.wrap ((i:Int)+1)=((i+1:Nat):Int):=wrap64 (by omega) (by omega)
   have g2:=(hf.pushTmp (.cells 0 false [.int .i64 0,.int .u64 0])).setTmp (i:=h'.n) hf.n (.cells 0 false (encW a))
   have hS2:=hS.tmp (.cells 0 false [.int .i64 0,.int .u64 0]) (.cells 0 false (encW a))
   simp -implicitDefEqProofs (disch:=first|exact dz _|fail) only [↓qJ,qK,qL,qA,qB,qC,qD,qE,↓reduceIte,qG,qH,qI,e0,e8,e9,e10,e5,x1,x2,x5]
   refine opI_of (hS2.app1 (fun _=>rfl) (fun _=>rfl) (by simp;omega) a.1 fun v' h'' F'' s'' f''=>?_)
   simp -implicitDefEqProofs (disch:=first|exact dz _|fail) only [↓qJ,qK,qL,qA,qB,qC,qD,qE,↓reduceIte,qG,qH,qI,e0,e8,e9,e10,e5,hw]
   refine ⟨gs.length-(i+1),by omega,i+1,v',F'',by omega,rfl,rfl,?_,g2.trans f''⟩
   rw [take_succ_of ha,List.map_append]
   exact s''
  ·simp -implicitDefEqProofs (disch:=first|exact dz _|fail) only [↓qJ,qK,qL,qA,qB,qC,qD,qE,↓reduceIte,qG,qH,qI,e0,e8,e9,e10,e5]
   simp only [decide_eq_false_iff_not] at hb
   have:i=gs.length:=by omega
   subst this
   rw [List.take_length] at hS
   have hlt1:c<h'.n:=Nat.lt_of_lt_of_le (by simpa using hlt0) hf.n
   have ho1:h'.get c=.cells 0 false [pv,.int .i64 cap,.bool true,sv,gv]:=(hf.get c (by simpa using hlt0) (by simp)).trans (AHeap.get_set_same _ _ _)
   simp -implicitDefEqProofs (disch:=first|exact dz _|fail) only [↓qJ,qK,qL,qA,qB,qC,qD,qE,↓reduceIte,qG,qH,qI,e0,e8,e9,e10,e5,ho1,ls]
   refine loopI_of (fun k e h'=>∃ (i:Nat) (rv:AVal) (F':List Nat),k+i=ss.length∧e.val 0=.ptr c 0 0∧e.val 38=sv∧e.val 39=.int .i64 ss.length∧e.val 40=.int .i64 i∧e.val 4=rv∧SlOf h' 1 encI rv (gs.map (·.1)++(ss.take i).map (·.1)) F'∧HFrame (h.set c (.cells 0 false [pv,.int .i64 cap,.bool true,sv,gv])) h' [] F') ss.length ?_ ?_
   ·refine ⟨0,rv,F',by simp,?_,?_,?_,?_,?_,by simpa using hS,hf⟩<;>simp -implicitDefEqProofs (disch:=first|exact dz _|fail) only [↓qJ,qK,qL,qA,qB,qC,qD,qE,↓reduceIte,qG,qH,qI,e0,e5]<;>rfl
   ·clear e0 e8 e9 e10 e5 hS hf hk hb hlt1 ho1
    rintro k e h' ⟨i,rv,F',hk,e0,e8,e9,e10,e5,hS,hf⟩
    simp -implicitDefEqProofs (disch:=first|exact dz _|fail) only [↓qJ,qK,qL,qA,qB,qC,qD,qE,↓reduceIte,qG,qH,qI,e0,e8,e9,e10,e5]
    refine cI_bool (fun hb=>?_) (fun hb=>?_)
    ·simp only [decide_eq_true_eq] at hb
     have hi:i<ss.length:=by omega
     obtain ⟨a,ha⟩:∃ a,ss[i]?=some a:=⟨_,List.getElem?_eq_getElem hi⟩
     obtain ⟨j,g,off,vs,ro,x1,x2,x3,x4,x5⟩:=(S'.rd.keep hf).ix (fun _=>rfl) ha .i64
     have hw:IntKind.i64.wrap ((i:Int)+1)=((i+1:Nat):Int):=wrap64 (by omega) (by omega)
     have g2:=(hf.pushTmp (.cells 0 false [.int .i64 0,.int .u64 0])).setTmp (i:=h'.n) hf.n (.cells 0 false (encW a))
     have hS2:=hS.tmp (.cells 0 false [.int .i64 0,.int .u64 0]) (.cells 0 false (encW a))
     simp -implicitDefEqProofs (disch:=first|exact dz _|fail) only [↓qJ,qK,qL,qA,qB,qC,qD,qE,↓reduceIte,qG,qH,qI,e0,e8,e9,e10,e5,x1,x2,x5]
     refine opI_of (hS2.app1 (fun _=>rfl) (fun _=>rfl) (by simp;omega) a.1 fun v' h'' F'' s'' f''=>?_)
     simp -implicitDefEqProofs (disch:=first|exact dz _|fail) only [↓qJ,qK,qL,qA,qB,qC,qD,qE,↓reduceIte,qG,qH,qI,e0,e8,e9,e10,e5,hw]
     refine ⟨ss.length-(i+1),by omega,i+1,v',F'',by omega,rfl,rfl,?_,g2.trans f''⟩
     rw [take_succ_of ha,List.map_append,←List.append_assoc]
     exact s''
    ·simp -implicitDefEqProofs (disch:=first|exact dz _|fail) only [↓qJ,qK,qL,qA,qB,qC,qD,qE,↓reduceIte,qG,qH,qI,e0,e8,e9,e10,e5]
     simp only [decide_eq_false_iff_not] at hb
     have:i=ss.length:=by omega
     subst this
     rw [List.take_length] at hS
     have hlt1:c<h'.n:=Nat.lt_of_lt_of_le (by simpa using hlt0) hf.n
     have ho1:h'.get c=.cells 0 false [pv,.int .i64 cap,.bool true,sv,gv]:=(hf.get c (by simpa using hlt0) (by simp)).trans (AHeap.get_set_same _ _ _)
     simp -implicitDefEqProofs (disch:=first|exact dz _|fail) only [↓qJ,qK,qL,qA,qB,qC,qD,qE,↓reduceIte,qG,qH,qI,e0,e8,e9,e10,e5,ho1,ls]
     subst hQ
     have hP:c ∉ Fp:=fun e=>hcout (by simp [e])
     have fa:HFrame h h' (c::(Fp++Fs++Fg)) (c::(Fp++[]++[])) :=
      (HFrame.set h c _ List.mem_cons_self hall).trans (hf.wide (by simp) (fun j hj=>.inr (by simp only [List.append_nil,List.mem_cons,List.mem_append] at hj ⊢;rcases hj with e | e<;>simp [e])) (by simpa using hall))
     have p1:SlOf h' 1 encP pv ps Fp:=(H0.hp.set (i:=c) hP (.cells 0 false [pv,.int .i64 cap,.bool true,sv,gv])).frame hf.n fun j hj=>hf.get j (by simpa using H0.hp.lt j hj) (by simp)
     have key:=ChanIn.upd2 (s':=⟨ps,cap,true,[],[]⟩) H0 (fa.trans (HFrame.set h' c (.cells 0 false [pv,.int .i64 cap,.bool true,sv,.nils]) List.mem_cons_self fa.lt)) (by simpa using ⟨hP,H0.hp.nd⟩) (p1.set (i:=c) hP _) SlOf.nil SlOf.nil
     have n1:∀ j,j∈F'→h.n≤j:=fun j hj=>by rcases hf.new j hj with e | e;cases e;simpa using e
     exact ⟨rv,F',rfl,(hS.set (i:=c) (fun e=>by have:=n1 c e;omega) _).set (i:=c) (fun e=>by have:=n1 c e;omega) _,n1,_,key.2,key.1.at,by simp only [List.append_nil,List.mem_cons,List.mem_append];intro j hj;rcases hj with e | e<;>simp [e]⟩
theorem closeTwice {h:AHeap} {c:Nat} {s:CS} {F:List Nat} (H:ChanAt h c s F) (hb:s.cl=true) :
  CallP AP 103 [.ptr c 0 0] h fun r h'=>r=.tup [.nils,.bool false]∧h'=h:=by
 refine callP (rfl:Tr.get AP 103=some A103) ?_
 generalize hQ:(fun (r:AVal) (h':AHeap)=>_)=Q
 obtain ⟨pv,sv,gv,Fp,Fs,Fg,H0,rfl⟩:=H
 have hlt0:=H0.lt
 have ho:=H0.obj
 rw [hb] at ho
 simp -implicitDefEqProofs (disch:=first|exact dz _|fail) only [↓qJ,qK,qL,qA,qB,qC,qD,qE,↓reduceIte,qG,qH,qI,ho]
 subst hQ
 exact ⟨rfl,rfl⟩
end Go.Proofs.Ytnbnpjhlflcjeaa.Id
namespace Go.Proofs.Ytnbnpjhlflcjeaa.Id
open Go Go.AM Go.Proofs.Ytnbnpjhlflcjeaa.AmGF
open Nat renaming reduceAdd → qA,reduceLeDiff → qB,reduceEqDiff → qC,reduceLT → qE
open Int renaming reduceToNat → qD,reduceEq → qG,reduceLT → qH,reduceLE → qI
/-! Floats by their bits,with one NaN. -/
abbrev F64:Ieee.Format:=FloatKind.f64.format
def selfF (n:Nat):Bool:=F64.order n n==some .eq
def bitsF (n:Nat):Int:=if selfF n then n else 9221120237041090561
def canonF (x:Int):Int:=bitsF x.toNat
def addF (x y:Int):Int:=bitsF ((F64.add x.toNat y.toNat).getD (nanRep .f64))
def subF (x y:Int):Int:=bitsF ((F64.sub x.toNat y.toNat).getD (nanRep .f64))
def mulF (x y:Int):Int:=bitsF ((F64.mul x.toNat y.toNat).getD (nanRep .f64))
def divF (x y:Int):Int:=bitsF ((F64.div x.toNat y.toNat).getD (nanRep .f64))
def eqF (x y:Int):Bool:=F64.order x.toNat y.toNat==some .eq
def lessF (x y:Int):Bool:=F64.order x.toNat y.toNat==some .lt
def fromF (n:Int):Int:=bitsF (FloatKind.f64.nearest n)
def toIF (x:Int):Option Int :=
 if selfF x.toNat=false then some 0
 else if F64.order x.toNat 4890909195324358656=some .gt∨F64.order x.toNat 4890909195324358656=some .eq then some 9223372036854775807
 else if F64.order x.toNat 14114281232179134464=some .lt then some (-9223372036854775808)
 else f2iF .i64 .f64 x.toNat
def floatF (op x y:Int):Int :=
 if op=15 then addF x y else if op=16 then subF x y else if op=17 then mulF x y else if op=18 then divF x y
 else if op=19 then (if eqF x y then 1 else 0) else (if lessF x y then 1 else 0)
theorem self_not {n:Nat} (h:selfF n=true):(F64.read n).isNaN=false:=by
 cases hn:(F64.read n).isNaN with
 | false=>rfl
 | true =>
  unfold selfF at h
  rw [order_nanL hn] at h
  cases h
end Go.Proofs.Ytnbnpjhlflcjeaa.Id
namespace Go.Proofs.Ytnbnpjhlflcjeaa.Id
open Go Go.AM Go.Proofs.Ytnbnpjhlflcjeaa.AmGF
open Nat renaming reduceAdd → qA,reduceLeDiff → qB,reduceEqDiff → qC,reduceLT → qE
open Int renaming reduceToNat → qD,reduceEq → qG,reduceLT → qH,reduceLE → qI
section
variable (h:AHeap)
theorem sBits (n:Nat):CallP AP 47 [.flt .f64 n] h fun r h'=>r=.int .u64 (bitsF n)∧h'=h:=by
 refine callP (rfl:Tr.get AP 47=some A47) ?_
 generalize hQ:(fun (r:AVal) (h':AHeap)=>_)=Q
 cases c:selfF n with
 | true =>
  have c':(F64.order n n != some .eq)=false:=by unfold selfF at c;simp only [bne,c];rfl
  have e:bitsF n=n:=by unfold bitsF;rw [if_pos c]
  have hn:=self_not c
  simp -implicitDefEqProofs (disch:=first|exact dz _|fail) only [↓qJ,qK,qL,qA,qB,qC,qD,qE,↓reduceIte,qG,qH,qI,c',hn]
  subst hQ
  exact ⟨by rw [e],rfl⟩
 | false =>
  have c':(F64.order n n != some .eq)=true:=by unfold selfF at c;simp only [bne,c];rfl
  have e:bitsF n=9221120237041090561:=by unfold bitsF;rw [if_neg (by simp [c])]
  simp -implicitDefEqProofs (disch:=first|exact dz _|fail) only [↓qJ,qK,qL,qA,qB,qC,qD,qE,↓reduceIte,qG,qH,qI,c']
  subst hQ
  exact ⟨by rw [e],rfl⟩
theorem sOf (x:Int):CallP AP 48 [.int .u64 x] h fun r h'=>r=.flt .f64 x.toNat∧h'=h:=by
 refine callP (rfl:Tr.get AP 48=some A48) ?_
 simp -implicitDefEqProofs (disch:=first|exact dz _|fail) only [↓qJ,qK,qL,qA,qB,qC,qD,qE,↓reduceIte,qG,qH,qI]
theorem sAdd (x y:Int):CallP AP 26 [.int .u64 x,.int .u64 y] h fun r h'=>r=.int .u64 (addF x y)∧h'=h:=by
 refine callP (rfl:Tr.get AP 26=some A26) ?_
 generalize hQ:(fun (r:AVal) (h':AHeap)=>_)=Q
 simp -implicitDefEqProofs (disch:=first|exact dz _|fail) only [↓qJ,qK,qL,qA,qB,qC,qD,qE,↓reduceIte,qG,qH,qI]
 refine callI_of (sOf h x) ?_
 rintro r h1 ⟨rfl,rfl⟩
 simp -implicitDefEqProofs (disch:=first|exact dz _|fail) only [↓qJ,qK,qL,qA,qB,qC,qD,qE,↓reduceIte,qG,qH,qI]
 refine callI_of (sOf h1 y) ?_
 rintro r h2 ⟨rfl,rfl⟩
 simp -implicitDefEqProofs (disch:=first|exact dz _|fail) only [↓qJ,qK,qL,qA,qB,qC,qD,qE,↓reduceIte,qG,qH,qI]
 refine callI_of (sBits h2 _) ?_
 rintro r h3 ⟨rfl,rfl⟩
 simp -implicitDefEqProofs (disch:=first|exact dz _|fail) only [↓qJ,qK,qL,qA,qB,qC,qD,qE,↓reduceIte,qG,qH,qI]
 subst hQ
 exact ⟨rfl,rfl⟩
theorem sSub (x y:Int):CallP AP 27 [.int .u64 x,.int .u64 y] h fun r h'=>r=.int .u64 (subF x y)∧h'=h:=by
 refine callP (rfl:Tr.get AP 27=some A27) ?_
 generalize hQ:(fun (r:AVal) (h':AHeap)=>_)=Q
 simp -implicitDefEqProofs (disch:=first|exact dz _|fail) only [↓qJ,qK,qL,qA,qB,qC,qD,qE,↓reduceIte,qG,qH,qI]
 refine callI_of (sOf h x) ?_
 rintro r h1 ⟨rfl,rfl⟩
 simp -implicitDefEqProofs (disch:=first|exact dz _|fail) only [↓qJ,qK,qL,qA,qB,qC,qD,qE,↓reduceIte,qG,qH,qI]
 refine callI_of (sOf h1 y) ?_
 rintro r h2 ⟨rfl,rfl⟩
 simp -implicitDefEqProofs (disch:=first|exact dz _|fail) only [↓qJ,qK,qL,qA,qB,qC,qD,qE,↓reduceIte,qG,qH,qI]
 refine callI_of (sBits h2 _) ?_
 rintro r h3 ⟨rfl,rfl⟩
 simp -implicitDefEqProofs (disch:=first|exact dz _|fail) only [↓qJ,qK,qL,qA,qB,qC,qD,qE,↓reduceIte,qG,qH,qI]
 subst hQ
 exact ⟨rfl,rfl⟩
theorem sMul (x y:Int):CallP AP 28 [.int .u64 x,.int .u64 y] h fun r h'=>r=.int .u64 (mulF x y)∧h'=h:=by
 refine callP (rfl:Tr.get AP 28=some A28) ?_
 generalize hQ:(fun (r:AVal) (h':AHeap)=>_)=Q
 simp -implicitDefEqProofs (disch:=first|exact dz _|fail) only [↓qJ,qK,qL,qA,qB,qC,qD,qE,↓reduceIte,qG,qH,qI]
 refine callI_of (sOf h x) ?_
 rintro r h1 ⟨rfl,rfl⟩
 simp -implicitDefEqProofs (disch:=first|exact dz _|fail) only [↓qJ,qK,qL,qA,qB,qC,qD,qE,↓reduceIte,qG,qH,qI]
 refine callI_of (sOf h1 y) ?_
 rintro r h2 ⟨rfl,rfl⟩
 simp -implicitDefEqProofs (disch:=first|exact dz _|fail) only [↓qJ,qK,qL,qA,qB,qC,qD,qE,↓reduceIte,qG,qH,qI]
 refine callI_of (sBits h2 _) ?_
 rintro r h3 ⟨rfl,rfl⟩
 simp -implicitDefEqProofs (disch:=first|exact dz _|fail) only [↓qJ,qK,qL,qA,qB,qC,qD,qE,↓reduceIte,qG,qH,qI]
 subst hQ
 exact ⟨rfl,rfl⟩
theorem sDiv (x y:Int):CallP AP 29 [.int .u64 x,.int .u64 y] h fun r h'=>r=.int .u64 (divF x y)∧h'=h:=by
 refine callP (rfl:Tr.get AP 29=some A29) ?_
 generalize hQ:(fun (r:AVal) (h':AHeap)=>_)=Q
 simp -implicitDefEqProofs (disch:=first|exact dz _|fail) only [↓qJ,qK,qL,qA,qB,qC,qD,qE,↓reduceIte,qG,qH,qI]
 refine callI_of (sOf h x) ?_
 rintro r h1 ⟨rfl,rfl⟩
 simp -implicitDefEqProofs (disch:=first|exact dz _|fail) only [↓qJ,qK,qL,qA,qB,qC,qD,qE,↓reduceIte,qG,qH,qI]
 refine callI_of (sOf h1 y) ?_
 rintro r h2 ⟨rfl,rfl⟩
 simp -implicitDefEqProofs (disch:=first|exact dz _|fail) only [↓qJ,qK,qL,qA,qB,qC,qD,qE,↓reduceIte,qG,qH,qI]
 refine callI_of (sBits h2 _) ?_
 rintro r h3 ⟨rfl,rfl⟩
 simp -implicitDefEqProofs (disch:=first|exact dz _|fail) only [↓qJ,qK,qL,qA,qB,qC,qD,qE,↓reduceIte,qG,qH,qI]
 subst hQ
 exact ⟨rfl,rfl⟩
theorem sEq (x y:Int):CallP AP 86 [.int .u64 x,.int .u64 y] h fun r h'=>r=.bool (eqF x y)∧h'=h:=by
 refine callP (rfl:Tr.get AP 86=some A86) ?_
 generalize hQ:(fun (r:AVal) (h':AHeap)=>_)=Q
 simp -implicitDefEqProofs (disch:=first|exact dz _|fail) only [↓qJ,qK,qL,qA,qB,qC,qD,qE,↓reduceIte,qG,qH,qI]
 refine callI_of (sOf h x) ?_
 rintro r h1 ⟨rfl,rfl⟩
 simp -implicitDefEqProofs (disch:=first|exact dz _|fail) only [↓qJ,qK,qL,qA,qB,qC,qD,qE,↓reduceIte,qG,qH,qI]
 refine callI_of (sOf h1 y) ?_
 rintro r h2 ⟨rfl,rfl⟩
 simp -implicitDefEqProofs (disch:=first|exact dz _|fail) only [↓qJ,qK,qL,qA,qB,qC,qD,qE,↓reduceIte,qG,qH,qI]
 subst hQ
 exact ⟨rfl,rfl⟩
theorem sLess (x y:Int):CallP AP 87 [.int .u64 x,.int .u64 y] h fun r h'=>r=.bool (lessF x y)∧h'=h:=by
 refine callP (rfl:Tr.get AP 87=some A87) ?_
 generalize hQ:(fun (r:AVal) (h':AHeap)=>_)=Q
 simp -implicitDefEqProofs (disch:=first|exact dz _|fail) only [↓qJ,qK,qL,qA,qB,qC,qD,qE,↓reduceIte,qG,qH,qI]
 refine callI_of (sOf h x) ?_
 rintro r h1 ⟨rfl,rfl⟩
 simp -implicitDefEqProofs (disch:=first|exact dz _|fail) only [↓qJ,qK,qL,qA,qB,qC,qD,qE,↓reduceIte,qG,qH,qI]
 refine callI_of (sOf h1 y) ?_
 rintro r h2 ⟨rfl,rfl⟩
 simp -implicitDefEqProofs (disch:=first|exact dz _|fail) only [↓qJ,qK,qL,qA,qB,qC,qD,qE,↓reduceIte,qG,qH,qI]
 subst hQ
 exact ⟨rfl,rfl⟩
theorem sCanon (x:Int):CallP AP 60 [.int .u64 x] h fun r h'=>r=.int .u64 (canonF x)∧h'=h:=by
 refine callP (rfl:Tr.get AP 60=some A60) ?_
 generalize hQ:(fun (r:AVal) (h':AHeap)=>_)=Q
 simp -implicitDefEqProofs (disch:=first|exact dz _|fail) only [↓qJ,qK,qL,qA,qB,qC,qD,qE,↓reduceIte,qG,qH,qI]
 refine callI_of (sOf h x) ?_
 rintro r h1 ⟨rfl,rfl⟩
 simp -implicitDefEqProofs (disch:=first|exact dz _|fail) only [↓qJ,qK,qL,qA,qB,qC,qD,qE,↓reduceIte,qG,qH,qI]
 refine callI_of (sBits h1 _) ?_
 rintro r h3 ⟨rfl,rfl⟩
 simp -implicitDefEqProofs (disch:=first|exact dz _|fail) only [↓qJ,qK,qL,qA,qB,qC,qD,qE,↓reduceIte,qG,qH,qI]
 subst hQ
 exact ⟨rfl,rfl⟩
theorem sFrom (x:Int):CallP AP 63 [.int .i64 x] h fun r h'=>r=.int .u64 (fromF x)∧h'=h:=by
 refine callP (rfl:Tr.get AP 63=some A63) ?_
 generalize hQ:(fun (r:AVal) (h':AHeap)=>_)=Q
 simp -implicitDefEqProofs (disch:=first|exact dz _|fail) only [↓qJ,qK,qL,qA,qB,qC,qD,qE,↓reduceIte,qG,qH,qI]
 refine callI_of (sBits h _) ?_
 rintro r h3 ⟨rfl,rfl⟩
 simp -implicitDefEqProofs (disch:=first|exact dz _|fail) only [↓qJ,qK,qL,qA,qB,qC,qD,qE,↓reduceIte,qG,qH,qI]
 subst hQ
 exact ⟨rfl,rfl⟩
theorem sBit (b:Bool):CallP AP 85 [.bool b] h fun r h'=>r=.int .u64 (if b then 1 else 0)∧h'=h:=by
 refine callP (rfl:Tr.get AP 85=some A85) ?_
 generalize hQ:(fun (r:AVal) (h':AHeap)=>_)=Q
 cases b
 ·simp -implicitDefEqProofs (disch:=first|exact dz _|fail) only [↓qJ,qK,qL,qA,qB,qC,qD,qE,↓reduceIte,qG,qH,qI]
  subst hQ
  exact ⟨rfl,rfl⟩
 ·simp -implicitDefEqProofs (disch:=first|exact dz _|fail) only [↓qJ,qK,qL,qA,qB,qC,qD,qE,↓reduceIte,qG,qH,qI]
  subst hQ
  exact ⟨rfl,rfl⟩
theorem sTo (x:Int) {n:Int} (hp:toIF x=some n):CallP AP 31 [.int .u64 x] h fun r h'=>r=.int .i64 n∧h'=h:=by
 refine callP (rfl:Tr.get AP 31=some A31) ?_
 generalize hQ:(fun (r:AVal) (h':AHeap)=>_)=Q
 simp -implicitDefEqProofs (disch:=first|exact dz _|fail) only [↓qJ,qK,qL,qA,qB,qC,qD,qE,↓reduceIte,qG,qH,qI]
 refine callI_of (sOf h x) ?_
 rintro r h1 ⟨rfl,rfl⟩
 unfold toIF at hp
 cases c:selfF x.toNat with
 | false =>
  rw [if_pos c] at hp
  cases hp
  have c':(F64.order x.toNat x.toNat != some .eq)=true:=by unfold selfF at c;simp only [bne,c];rfl
  simp -implicitDefEqProofs (disch:=first|exact dz _|fail) only [↓qJ,qK,qL,qA,qB,qC,qD,qE,↓reduceIte,qG,qH,qI,c']
  subst hQ
  exact ⟨rfl,rfl⟩
 | true =>
  rw [if_neg (by simp [c])] at hp
  have c':(F64.order x.toNat x.toNat != some .eq)=false:=by unfold selfF at c;simp only [bne,c];rfl
  by_cases c2:F64.order x.toNat 4890909195324358656=some .gt∨F64.order x.toNat 4890909195324358656=some .eq
  ·rw [if_pos c2] at hp
   cases hp
   have c3:(F64.order x.toNat 4890909195324358656==some .gt||F64.order x.toNat 4890909195324358656==some .eq)=true:=by
    rcases c2 with e | e<;>rw [e]<;>rfl
   simp -implicitDefEqProofs (disch:=first|exact dz _|fail) only [↓qJ,qK,qL,qA,qB,qC,qD,qE,↓reduceIte,qG,qH,qI,c',c3]
   subst hQ
   exact ⟨rfl,rfl⟩
  ·rw [if_neg c2] at hp
   have c3:(F64.order x.toNat 4890909195324358656==some .gt||F64.order x.toNat 4890909195324358656==some .eq)=false:=by
    rw [Bool.or_eq_false_iff]
    exact ⟨by rw [beq_eq_false_iff_ne];exact fun e=>c2 (.inl e),by rw [beq_eq_false_iff_ne];exact fun e=>c2 (.inr e)⟩
   by_cases c4:F64.order x.toNat 14114281232179134464=some .lt
   ·rw [if_pos c4] at hp
    cases hp
    have c5:(F64.order x.toNat 14114281232179134464==some .lt)=true:=by rw [c4];rfl
    simp -implicitDefEqProofs (disch:=first|exact dz _|fail) only [↓qJ,qK,qL,qA,qB,qC,qD,qE,↓reduceIte,qG,qH,qI,c',c3,c5]
    subst hQ
    exact ⟨rfl,rfl⟩
   ·rw [if_neg c4] at hp
    have c5:(F64.order x.toNat 14114281232179134464==some .lt)=false:=by rw [beq_eq_false_iff_ne];exact c4
    simp -implicitDefEqProofs (disch:=first|exact dz _|fail) only [↓qJ,qK,qL,qA,qB,qC,qD,qE,↓reduceIte,qG,qH,qI,c',c3,c5,hp]
    subst hQ
    exact ⟨rfl,rfl⟩
theorem sFloat (op x y:Int) (ho:op=15∨op=16∨op=17∨op=18∨op=19∨op=20):CallP AP 62 [.int .i64 op,.int .u64 x,.int .u64 y] h fun r h'=>r=.int .u64 (floatF op x y)∧h'=h:=by
 refine callP (rfl:Tr.get AP 62=some A62) ?_
 generalize hQ:(fun (r:AVal) (h':AHeap)=>_)=Q
 rcases ho with rfl | rfl | rfl | rfl | rfl | rfl
 ·simp -implicitDefEqProofs (disch:=first|exact dz _|fail) only [↓qJ,qK,qL,qA,qB,qC,qD,qE,↓reduceIte,qG,qH,qI]
  refine callI_of (sAdd h x y) ?_
  rintro r h1 ⟨rfl,rfl⟩
  simp -implicitDefEqProofs (disch:=first|exact dz _|fail) only [↓qJ,qK,qL,qA,qB,qC,qD,qE,↓reduceIte,qG,qH,qI]
  subst hQ
  exact ⟨rfl,rfl⟩
 ·simp -implicitDefEqProofs (disch:=first|exact dz _|fail) only [↓qJ,qK,qL,qA,qB,qC,qD,qE,↓reduceIte,qG,qH,qI]
  refine callI_of (sSub h x y) ?_
  rintro r h1 ⟨rfl,rfl⟩
  simp -implicitDefEqProofs (disch:=first|exact dz _|fail) only [↓qJ,qK,qL,qA,qB,qC,qD,qE,↓reduceIte,qG,qH,qI]
  subst hQ
  exact ⟨rfl,rfl⟩
 ·simp -implicitDefEqProofs (disch:=first|exact dz _|fail) only [↓qJ,qK,qL,qA,qB,qC,qD,qE,↓reduceIte,qG,qH,qI]
  refine callI_of (sMul h x y) ?_
  rintro r h1 ⟨rfl,rfl⟩
  simp -implicitDefEqProofs (disch:=first|exact dz _|fail) only [↓qJ,qK,qL,qA,qB,qC,qD,qE,↓reduceIte,qG,qH,qI]
  subst hQ
  exact ⟨rfl,rfl⟩
 ·simp -implicitDefEqProofs (disch:=first|exact dz _|fail) only [↓qJ,qK,qL,qA,qB,qC,qD,qE,↓reduceIte,qG,qH,qI]
  refine callI_of (sDiv h x y) ?_
  rintro r h1 ⟨rfl,rfl⟩
  simp -implicitDefEqProofs (disch:=first|exact dz _|fail) only [↓qJ,qK,qL,qA,qB,qC,qD,qE,↓reduceIte,qG,qH,qI]
  subst hQ
  exact ⟨rfl,rfl⟩
 ·simp -implicitDefEqProofs (disch:=first|exact dz _|fail) only [↓qJ,qK,qL,qA,qB,qC,qD,qE,↓reduceIte,qG,qH,qI]
  refine callI_of (sEq h x y) ?_
  rintro r h1 ⟨rfl,rfl⟩
  simp -implicitDefEqProofs (disch:=first|exact dz _|fail) only [↓qJ,qK,qL,qA,qB,qC,qD,qE,↓reduceIte,qG,qH,qI]
  refine callI_of (sBit h1 _) ?_
  rintro r h2 ⟨rfl,rfl⟩
  simp -implicitDefEqProofs (disch:=first|exact dz _|fail) only [↓qJ,qK,qL,qA,qB,qC,qD,qE,↓reduceIte,qG,qH,qI]
  subst hQ
  exact ⟨rfl,rfl⟩
 ·simp -implicitDefEqProofs (disch:=first|exact dz _|fail) only [↓qJ,qK,qL,qA,qB,qC,qD,qE,↓reduceIte,qG,qH,qI]
  refine callI_of (sLess h x y) ?_
  rintro r h1 ⟨rfl,rfl⟩
  simp -implicitDefEqProofs (disch:=first|exact dz _|fail) only [↓qJ,qK,qL,qA,qB,qC,qD,qE,↓reduceIte,qG,qH,qI]
  refine callI_of (sBit h1 _) ?_
  rintro r h2 ⟨rfl,rfl⟩
  simp -implicitDefEqProofs (disch:=first|exact dz _|fail) only [↓qJ,qK,qL,qA,qB,qC,qD,qE,↓reduceIte,qG,qH,qI]
  subst hQ
  exact ⟨rfl,rfl⟩
end
end Go.Proofs.Ytnbnpjhlflcjeaa.Id
namespace Go.Proofs.Ytnbnpjhlflcjeaa.Id.V
open Go Go.AM Go.Proofs.Ytnbnpjhlflcjeaa.AmGF
open Nat renaming reduceAdd → qA,reduceLeDiff → qB,reduceEqDiff → qC,reduceLT → qE
open Int renaming reduceToNat → qD,reduceEq → qG,reduceLT → qH,reduceLE → qI
/-! What is computed. -/
def slotK (sl:List Int) (n:Int):Option Int:=if 0≤n∧n<sl.length then sl[n.toNat]? else none
def areF (sl:List Int) (l:List (Int×Int)):Int:=if l.any (fun x=>(slotK sl x.1).isNone) then 11 else if l.any (fun x=>slotK sl x.1 != some x.2) then 10 else 0
def alikeF (sl:List Int) (is:Int→Bool) (l:List Int):Int :=
 if l.any (fun n=>(slotK sl n).isNone) then 11 else if l.any (fun n=>slotK sl n != slotK sl (l.headD 0)||!is ((slotK sl n).getD 0)) then 10 else 0
def kind1 (nt:Nat) (k:Int):Bool:=decide (k=0∨k=1∨(16≤k∧k<64∧k-16<nt))
def kindF (nt:Nat) (k:Int):Bool:=kind1 nt k||(decide (64≤k∧k<128)&&kind1 nt (k-64))
def flat (l:List (Int×Int)):List Int:=l.flatMap fun x=>[x.1,x.2]
def CkR (h:AHeap) (c:Nat) (p:PProg) (f:PFunc) (i:PIns):Prop:=∃ tv gv fv sv rv cv at_ lv,
 h.get c=.cells 0 false [tv,gv,fv,.int .i64 f.params,sv,rv,cv,.int .i64 at_,.int .i64 i.op,.int .i64 i.a,.int .i64 i.b,.int .i64 i.c,.int .u64 i.imm,lv]∧c<h.n ∧
 SlR h 2 (TypeR h) tv p.types∧SlIn h 1 encK gv p.globals∧SlR h 4 (FuncR h) fv p.funcs∧SlIn h 1 encK sv f.slots∧SlIn h 1 encK rv f.results∧SlR h 6 (InsR h) cv f.code∧i.imm≤18446744073709551615∧SlIn h 1 encK lv i.list
theorem CkR.keep {h h':AHeap} {c:Nat} {p:PProg} {f:PFunc} {i:PIns} (C:CkR h c p f i) {F:List Nat} (fr:HFrame h h' [] F):CkR h' c p f i:=by
 obtain ⟨tv,gv,fv,sv,rv,cv,at_,lv,g,lt,s1,s2,s3,s4,s5,s6,hi,s7⟩:=C
 have hn:=fr.n
 have k:∀ j,j<h.n→h'.get j=h.get j:=fun j hj=>fr.get j hj (by simp)
 exact ⟨tv,gv,fv,sv,rv,cv,at_,lv,(k c lt).trans g,by omega,s1.mono (fun _ _ q=>TypeR.mono hn k q) hn k,s2.mono hn k,s3.mono (fun _ _ q=>FuncR.mono hn k q) hn k,s4.mono hn k,s5.mono hn k,s6.mono (fun _ _ q=>InsR.mono hn k q) hn k,hi,s7.mono hn k⟩
theorem slotK_some {sl:List Int} {n:Int} (h:0≤n∧n<sl.length):∃ k,sl[n.toNat]?=some k∧slotK sl n=some k:=by
 have:n.toNat<sl.length:=by omega
 exact ⟨_,List.getElem?_eq_getElem this,by rw [slotK,if_pos h,List.getElem?_eq_getElem this]⟩
theorem SlIn.ixI {h:AHeap} {v:AVal} {l:List Int} (L:SlIn h 1 encK v l) {n:Int} (hn:0≤n) {a:Int} (ha:l[n.toNat]?=some a) :
  ∃ id g off vs ro,ixV h 1 v (.int .i64 n)=some (.ptr id g off,h)∧h.get id=.cells g ro vs∧id<h.n∧vs[off]?=some (.int .i64 a):=by
 obtain ⟨j,g,off,vs,ro,x1,x2,x3,x5⟩:=(L.rd ha).ix1 (enc:=fun n=>.int .i64 n) ha .i64
 rw [show ((n.toNat:Nat):Int)=n by omega] at x1
 exact ⟨j,g,off,vs,ro,x1,x2,x3,x5⟩
theorem slot {h:AHeap} {c:Nat} {p:PProg} {f:PFunc} {i:PIns} (C:CkR h c p f i) (n:Int) :
  CallP AP 98 [.ptr c 0 0,.int .i64 n] h fun r h'=>h'=h∧r=.tup [.int .i64 ((slotK f.slots n).getD 0),.bool (slotK f.slots n).isSome]:=by
 obtain ⟨tv,gv,fv,sv,rv,cv,at_,lv,g,lt,s1,s2,s3,s4,s5,s6,hi,s7⟩:=C
 refine callP (rfl:Tr.get AP 98=some A98) ?_
 generalize hQ:(fun (r:AVal) (h':AHeap)=>_)=Q
 have l4:=s4.len
 simp -implicitDefEqProofs (disch:=first|exact dz _|fail) only [RGB,↓qJ,qK,qL,qA,qB,qC,qD,qE,↓reduceIte,qG,qH,qI,g,l4]
 refine cI_bool (fun hb=>?_) (fun hb=>?_)
 ·simp -implicitDefEqProofs (disch:=first|exact dz _|fail) only [↓qJ,qK,qL,qA,qB,qC,qD,qE,↓reduceIte,qG,qH,qI]
  subst hQ
  simp only [Bool.or_eq_true,decide_eq_true_eq] at hb
  have:slotK f.slots n=none:=if_neg (by omega)
  rw [this]
  exact ⟨rfl,rfl⟩
 ·simp only [Bool.or_eq_false_iff,decide_eq_false_iff_not] at hb
  obtain ⟨k,hk,hs⟩:=slotK_some (sl:=f.slots) (n:=n) (by omega)
  obtain ⟨j,g2,off,vs,ro,x1,x2,x3,x5⟩:=SlIn.ixI s4 (by omega) hk
  simp -implicitDefEqProofs (disch:=first|exact dz _|fail) only [↓qJ,qK,qL,qA,qB,qC,qD,qE,↓reduceIte,qG,qH,qI,g,x1,x2,x5]
  subst hQ
  rw [hs]
  exact ⟨rfl,rfl⟩
theorem flat_len (l:List (Int×Int)):(flat l).length=2*l.length:=by
 induction l with
 | nil=>rfl
 | cons a l ih=>rw [flat,List.flatMap_cons,List.length_append];unfold flat at ih;rw [ih];simp;omega
theorem flat_at:∀ (l:List (Int×Int)) (i:Nat) (x:Int×Int),l[i]?=some x→(flat l)[2*i]?=some x.1∧(flat l)[2*i+1]?=some x.2
 | [],i,x,h=>by simp at h
 | a::l,0,x,h=>by simp at h;subst h;exact ⟨rfl,rfl⟩
 | a::l,i+1,x,h=>by
  have:=flat_at l i x (by simpa using h)
  rw [show 2*(i+1)=2*i+2 by omega]
  exact this
theorem any_drop {α:Type} {f:α→Bool} {l:List α} {i:Nat} {a:α} (h:l[i]?=some a):(l.drop i).any f=(f a||(l.drop (i+1)).any f):=by
 obtain ⟨hi,rfl⟩:=List.getElem?_eq_some_iff.1 h
 rw [List.drop_eq_getElem_cons hi,List.any_cons]
set_option maxHeartbeats 1000000 in
theorem are {h:AHeap} {c:Nat} {p:PProg} {f:PFunc} {i:PIns} (C:CkR h c p f i) {v:AVal} {l:List (Int×Int)} (L:SlIn h 1 encK v (flat l)) (hl:l.length<1073741824) :
  CallP AP 79 [.ptr c 0 0,v] h fun r h'=>h'=h∧r=.int .i64 (areF f.slots l):=by
 refine callP (rfl:Tr.get AP 79=some A79) ?_
 generalize hQ:(fun (r:AVal) (h':AHeap)=>_)=Q
 have ll:=L.len
 rw [flat_len] at ll
 simp -implicitDefEqProofs (disch:=first|exact dz _|fail) only [↓qJ,qK,qL,qA,qB,qC,qD,qE,↓reduceIte,qG,qH,qI]
 refine loopI_of (fun k e h'=>∃ x:Nat,k+x=l.length∧e.val 0=.ptr c 0 0∧e.val 1=v∧e.val 5=.int .i64 (2*x:Nat)∧h'=h∧l.any (fun x=>(slotK f.slots x.1).isNone)=(l.drop x).any (fun x=>(slotK f.slots x.1).isNone)) l.length ?_ ?_
 ·refine ⟨0,by omega,?_,?_,?_,rfl,by simp⟩<;>simp -implicitDefEqProofs (disch:=first|exact dz _|fail) only [↓qJ,qK,qL,qA,qB,qC,qD,qE,↓reduceIte,qG,qH,qI]<;>rfl
 ·rintro k e h' ⟨x,hk,e0,e1,e5,rfl,ha⟩
  simp -implicitDefEqProofs (disch:=first|exact dz _|fail) only [↓qJ,qK,qL,qA,qB,qC,qD,qE,↓reduceIte,qG,qH,qI,e0,e1,e5,ll]
  refine cI_bool (fun hb=>?_) (fun hb=>?_)
  ·simp only [decide_eq_true_eq] at hb
   obtain ⟨a,hx⟩:∃ a,l[x]?=some a:=⟨_,List.getElem?_eq_getElem (by omega)⟩
   obtain ⟨q1,q2⟩:=flat_at l x a hx
   obtain ⟨j,g,off,vs,ro,x1,x2,x3,x5⟩:=(L.rd q1).ix1 (enc:=fun n=>.int .i64 n) q1 .i64
   have hw:IntKind.i64.wrap (((2*x:Nat):Int)+2)=((2*(x+1):Nat):Int):=(wrap64 (by omega) (by omega)).trans (by omega)
   rw [any_drop hx] at ha
   simp -implicitDefEqProofs (disch:=first|exact dz _|fail) only [↓qJ,qK,qL,qA,qB,qC,qD,qE,↓reduceIte,qG,qH,qI,e0,e1,e5,x1,x2,x5]
   refine callI_of (slot C a.1) ?_
   rintro r h2 ⟨rfl,rfl⟩
   simp -implicitDefEqProofs (disch:=first|exact dz _|fail) only [↓qJ,qK,qL,qA,qB,qC,qD,qE,↓reduceIte,qG,qH,qI,e0,e1,e5]
   refine cI_bool (fun hc=>?_) (fun hc=>?_)
   ·simp -implicitDefEqProofs (disch:=first|exact dz _|fail) only [↓qJ,qK,qL,qA,qB,qC,qD,qE,↓reduceIte,qG,qH,qI]
    subst hQ
    have:(slotK f.slots a.1).isNone=true:=by simpa using hc
    rw [areF,ha,this]
    exact ⟨rfl,rfl⟩
   ·simp -implicitDefEqProofs (disch:=first|exact dz _|fail) only [↓qJ,qK,qL,qA,qB,qC,qD,qE,↓reduceIte,qG,qH,qI,e0,e1,e5,hw]
    have:(slotK f.slots a.1).isNone=false:=by simpa using hc
    rw [this,Bool.false_or] at ha
    exact ⟨l.length-(x+1),by omega,x+1,by omega,rfl,ha⟩
  ·simp only [decide_eq_false_iff_not] at hb
   rw [List.drop_of_length_le (by omega),List.any_nil] at ha
   simp -implicitDefEqProofs (disch:=first|exact dz _|fail) only [↓qJ,qK,qL,qA,qB,qC,qD,qE,↓reduceIte,qG,qH,qI,e0,e1]
   refine loopI_of (fun k e h2=>∃ x:Nat,k+x=l.length∧e.val 0=.ptr c 0 0∧e.val 1=v∧e.val 8=.int .i64 (2*x:Nat)∧h2=h'∧l.any (fun x=>slotK f.slots x.1 != some x.2)=(l.drop x).any (fun x=>slotK f.slots x.1 != some x.2)) l.length ?_ ?_
   ·refine ⟨0,by omega,?_,?_,?_,rfl,by simp⟩<;>simp -implicitDefEqProofs (disch:=first|exact dz _|fail) only [↓qJ,qK,qL,qA,qB,qC,qD,qE,↓reduceIte,qG,qH,qI,e0,e1]<;>rfl
   ·clear hb e0 e1 e5 hk
    rintro k e h' ⟨x,hk,e0,e1,e8,rfl,hA⟩
    simp -implicitDefEqProofs (disch:=first|exact dz _|fail) only [↓qJ,qK,qL,qA,qB,qC,qD,qE,↓reduceIte,qG,qH,qI,e0,e1,e8,ll]
    refine cI_bool (fun hb=>?_) (fun hb=>?_)
    ·simp only [decide_eq_true_eq] at hb
     obtain ⟨a,hx⟩:∃ a,l[x]?=some a:=⟨_,List.getElem?_eq_getElem (by omega)⟩
     obtain ⟨q1,q2⟩:=flat_at l x a hx
     obtain ⟨j,g,off,vs,ro,x1,x2,x3,x5⟩:=(L.rd q1).ix1 (enc:=fun n=>.int .i64 n) q1 .i64
     obtain ⟨j2,g2,off2,vs2,ro2,y1,y2,y3,y5⟩:=(L.rd q2).ix1 (enc:=fun n=>.int .i64 n) q2 .i64
     have hw:IntKind.i64.wrap (((2*x:Nat):Int)+2)=((2*(x+1):Nat):Int):=(wrap64 (by omega) (by omega)).trans (by omega)
     have hw1:IntKind.i64.wrap (((2*x:Nat):Int)+1)=((2*x+1:Nat):Int):=(wrap64 (by omega) (by omega)).trans (by omega)
     rw [any_drop hx] at hA
     simp -implicitDefEqProofs (disch:=first|exact dz _|fail) only [↓qJ,qK,qL,qA,qB,qC,qD,qE,↓reduceIte,qG,qH,qI,e0,e1,e8,x1,x2,x5]
     refine callI_of (slot C a.1) ?_
     rintro r h2 ⟨rfl,rfl⟩
     simp -implicitDefEqProofs (disch:=first|exact dz _|fail) only [↓qJ,qK,qL,qA,qB,qC,qD,qE,↓reduceIte,qG,qH,qI,e0,e1,e8,hw1,y1,y2,y5]
     obtain ⟨k',hk'⟩:∃ k',slotK f.slots a.1=some k':=by
      cases hq:slotK f.slots a.1 with
      | some k'=>exact ⟨_,rfl⟩
      | none =>
       have:=List.any_eq_false.1 ha a (List.mem_of_getElem? hx)
       rw [hq] at this;simp at this
     refine cI_bool (fun hc=>?_) (fun hc=>?_)
     ·simp -implicitDefEqProofs (disch:=first|exact dz _|fail) only [↓qJ,qK,qL,qA,qB,qC,qD,qE,↓reduceIte,qG,qH,qI]
      subst hQ
      have:(slotK f.slots a.1 != some a.2)=true:=by rw [hk'] at hc ⊢;simpa using hc
      rw [areF,ha,hA,this]
      exact ⟨rfl,rfl⟩
     ·simp -implicitDefEqProofs (disch:=first|exact dz _|fail) only [↓qJ,qK,qL,qA,qB,qC,qD,qE,↓reduceIte,qG,qH,qI,e0,e1,e8,hw]
      have:(slotK f.slots a.1 != some a.2)=false:=by rw [hk'] at hc ⊢;simpa using hc
      rw [this,Bool.false_or] at hA
      exact ⟨l.length-(x+1),by omega,x+1,by omega,rfl,hA⟩
    ·simp only [decide_eq_false_iff_not] at hb
     rw [List.drop_of_length_le (by omega),List.any_nil] at hA
     simp -implicitDefEqProofs (disch:=first|exact dz _|fail) only [↓qJ,qK,qL,qA,qB,qC,qD,qE,↓reduceIte,qG,qH,qI]
     subst hQ
     rw [areF,ha,hA]
     exact ⟨rfl,rfl⟩
end Go.Proofs.Ytnbnpjhlflcjeaa.Id.V
namespace Go.Proofs.Ytnbnpjhlflcjeaa.Id.V
open Go Go.AM Go.Proofs.Ytnbnpjhlflcjeaa.AmGF
open Nat renaming reduceAdd → qA,reduceLeDiff → qB,reduceEqDiff → qC,reduceLT → qE
open Int renaming reduceToNat → qD,reduceEq → qG,reduceLT → qH,reduceLE → qI
theorem number (k:Int) (h:AHeap):CallP AP 77 [.int .i64 k] h fun r h'=>h'=h∧r=.bool (decide (k=0)||decide (k=1)):=by
 refine callP (rfl:Tr.get AP 77=some A77) ?_
 generalize hQ:(fun (r:AVal) (h':AHeap)=>_)=Q
 simp -implicitDefEqProofs (disch:=first|exact dz _|fail) only [RGB,↓qJ,qK,qL,qA,qB,qC,qD,qE,↓reduceIte,qG,qH,qI]
 subst hQ
 exact ⟨rfl,rfl⟩
theorem any (k:Int) (h:AHeap):CallP AP 78 [.int .i64 k] h fun r h'=>h'=h∧r=.bool true:=by
 refine callP (rfl:Tr.get AP 78=some A78) ?_
 generalize hQ:(fun (r:AVal) (h':AHeap)=>_)=Q
 simp -implicitDefEqProofs (disch:=first|exact dz _|fail) only [RGB,↓qJ,qK,qL,qA,qB,qC,qD,qE,↓reduceIte,qG,qH,qI]
 subst hQ
 exact ⟨rfl,rfl⟩
theorem isRef (k:Int) (h:AHeap):CallP AP 50 [.int .i64 k] h fun r h'=>h'=h∧r=.bool (decide (16≤k)):=by
 refine callP (rfl:Tr.get AP 50=some A50) ?_
 generalize hQ:(fun (r:AVal) (h':AHeap)=>_)=Q
 simp -implicitDefEqProofs (disch:=first|exact dz _|fail) only [RGB,↓qJ,qK,qL,qA,qB,qC,qD,qE,↓reduceIte,qG,qH,qI]
 subst hQ
 exact ⟨rfl,rfl⟩
theorem kindLow {h:AHeap} {c:Nat} {p:PProg} {f:PFunc} {i:PIns} (C:CkR h c p f i) (k:Int) (hk:k<64) :
  CallP AP 73 [.ptr c 0 0,.int .i64 k] h fun r h'=>h'=h∧r=.bool (kind1 p.types.length k):=by
 obtain ⟨tv,gv,fv,sv,rv,cv,at_,lv,g,lt,s1,s2,s3,s4,s5,s6,hi,s7⟩:=C
 refine callP (rfl:Tr.get AP 73=some A73) ?_
 generalize hQ:(fun (r:AVal) (h':AHeap)=>_)=Q
 have l1:=s1.len
 simp -implicitDefEqProofs (disch:=first|exact dz _|fail) only [RGB,↓qJ,qK,qL,qA,qB,qC,qD,qE,↓reduceIte,qG,qH,qI]
 refine cI_bool (fun hb=>?_) (fun hb=>?_)
 ·simp -implicitDefEqProofs (disch:=first|exact dz _|fail) only [RGB,↓qJ,qK,qL,qA,qB,qC,qD,qE,↓reduceIte,qG,qH,qI]
  subst hQ
  simp only [Bool.or_eq_true,decide_eq_true_eq] at hb
  exact ⟨rfl,by rw [kind1,decide_eq_true (by omega)]⟩
 ·simp only [Bool.or_eq_false_iff,decide_eq_false_iff_not] at hb
  simp -implicitDefEqProofs (disch:=first|exact dz _|fail) only [RGB,↓qJ,qK,qL,qA,qB,qC,qD,qE,↓reduceIte,qG,qH,qI]
  refine cI_bool (fun hc=>?_) (fun hc=>?_)
  ·simp only [Bool.and_eq_true,decide_eq_true_eq] at hc
   have hw:IntKind.i64.wrap (k-16)=k-16:=wrap64 (by omega) (by omega)
   simp -implicitDefEqProofs (disch:=first|exact dz _|fail) only [RGB,↓qJ,qK,qL,qA,qB,qC,qD,qE,↓reduceIte,qG,qH,qI,g,l1,hw]
   subst hQ
   refine ⟨rfl,?_⟩
   rw [kind1]
   congr 1
   exact decide_eq_decide.2 (by omega)
  ·simp -implicitDefEqProofs (disch:=first|exact dz _|fail) only [RGB,↓qJ,qK,qL,qA,qB,qC,qD,qE,↓reduceIte,qG,qH,qI]
   have hd:decide (64≤k)=false:=decide_eq_false (by omega)
   simp -implicitDefEqProofs (disch:=first|exact dz _|fail) only [RGB,↓qJ,qK,qL,qA,qB,qC,qD,qE,↓reduceIte,qG,qH,qI,hd]
   subst hQ
   refine ⟨rfl,?_⟩
   simp only [Bool.and_eq_false_iff,decide_eq_false_iff_not] at hc
   rw [kind1,decide_eq_false (by omega)]
theorem kind {h:AHeap} {c:Nat} {p:PProg} {f:PFunc} {i:PIns} (C:CkR h c p f i) (k:Int) (hk:k≤mx) :
  CallP AP 73 [.ptr c 0 0,.int .i64 k] h fun r h'=>h'=h∧r=.bool (kindF p.types.length k):=by
 by_cases hlo:k<64
 ·refine (kindLow C k hlo).mono ?_
  rintro r h' ⟨rfl,rfl⟩
  refine ⟨rfl,?_⟩
  rw [kindF,decide_eq_false (by omega),Bool.false_and,Bool.or_false]
 have C0:=C
 obtain ⟨tv,gv,fv,sv,rv,cv,at_,lv,g,lt,s1,s2,s3,s4,s5,s6,hi,s7⟩:=C
 refine callP (rfl:Tr.get AP 73=some A73) ?_
 generalize hQ:(fun (r:AVal) (h':AHeap)=>_)=Q
 have l1:=s1.len
 have d1:(decide (k=0)||decide (k=1))=false:=by simp;omega
 have d2:(decide (16≤k)&&decide (k<64))=false:=by simp;omega
 have d3:decide (64≤k)=true:=decide_eq_true (by omega)
 have hw:IntKind.i64.wrap (k-64)=k-64:=wrap64 (by omega) (by unfold mx at hk;omega)
 have e1:kind1 p.types.length k=false:=decide_eq_false (by omega)
 simp -implicitDefEqProofs (disch:=first|exact dz _|fail) only [RGB,↓qJ,qK,qL,qA,qB,qC,qD,qE,↓reduceIte,qG,qH,qI,d1,d2,d3,hw]
 refine AM.gI_bool (fun hb=>?_) (fun hb=>?_)
 ·simp only [decide_eq_true_eq] at hb
  have hb':decide (k-64<64)=true:=decide_eq_true hb
  simp -implicitDefEqProofs (disch:=first|exact dz _|fail) only [↓qJ,qK,qL,qA,qB,qC,qD,qE,↓reduceIte,qG,qH,qI,hw,hb']
  refine callI_of (kindLow C0 (k-64) hb) ?_
  rintro r h2 ⟨rfl,rfl⟩
  simp -implicitDefEqProofs (disch:=first|exact dz _|fail) only [↓qJ,qK,qL,qA,qB,qC,qD,qE,↓reduceIte,qG,qH,qI,hb']
  subst hQ
  refine ⟨rfl,?_⟩
  rw [kindF,e1,decide_eq_true (by omega),Bool.false_or,Bool.true_and]
 ·simp only [decide_eq_false_iff_not] at hb
  have hb':decide (k-64<64)=false:=decide_eq_false hb
  simp -implicitDefEqProofs (disch:=first|exact dz _|fail) only [↓qJ,qK,qL,qA,qB,qC,qD,qE,↓reduceIte,qG,qH,qI,hw,hb']
  subst hQ
  refine ⟨rfl,?_⟩
  rw [kindF,e1,decide_eq_false (by omega),Bool.false_or,Bool.false_and]
def shapeF (op:Int):Int×Bool×Bool :=
 if orB op [1,41]=true then (1,true,false) else if orB op [36]=true then (0,false,true) else if orB op [35,37,38]=true then (1,false,true) else if orB op [45]=true then (2,false,true) else if orB op [47]=true then (0,false,false)
 else if orB op [24,39,44,46,48,52]=true then (1,false,false) else if orB op [2,21,22,25,26,28,33,34,40,42,49,50,51]=true then (2,false,false) else (3,false,false)
set_option maxHeartbeats 1000000 in
theorem shape (op:Int) (h:AHeap):CallP AP 75 [.int .i64 op] h fun r h'=>h'=h∧r=.tup [.int .i64 (shapeF op).1,.bool (shapeF op).2.1,.bool (shapeF op).2.2]:=by
 refine callP (rfl:Tr.get AP 75=some A75) ?_
 generalize hQ:(fun (r:AVal) (h':AHeap)=>_)=Q
 simp -implicitDefEqProofs (disch:=first|exact dz _|fail) only [↓qJ,qK,qL,qA,qB,qC,qD,qE,↓reduceIte,qG,qH,qI]
 refine cI_or (t:=6) (s:=5) (x:=op) (by decide) [(8,41)] (by simp -implicitDefEqProofs (disch:=first|exact dz _|fail) only [↓qJ,qK,qL,qA,qB,qC,qD,qE,↓reduceIte,qG,qH,qI]) (by simp -implicitDefEqProofs (disch:=first|exact dz _|fail) only [↓qJ,qK,qL,qA,qB,qC,qD,qE,↓reduceIte,qG,qH,qI]) (by decide) ?_
 intro e' ht hk
 have e5':Env.val e' 5=.int .i64 op:=(hk 5 (by decide) (by decide)).trans (by simp -implicitDefEqProofs (disch:=first|exact dz _|fail) only [↓qJ,qK,qL,qA,qB,qC,qD,qE,↓reduceIte,qG,qH,qI])
 clear hk
 try clear e5
 have e5:=e5'
 clear e5'
 simp -implicitDefEqProofs (disch:=first|exact dz _|fail) only [↓qJ,qK,qL,qA,qB,qC,qD,qE,↓reduceIte,qG,qH,qI,ht]
 refine cI_bool (fun hb=>?_) (fun hb=>?_)
 ·have h1:orB op [1,41]=true:=hb
  simp -implicitDefEqProofs (disch:=first|exact dz _|fail) only [↓qJ,qK,qL,qA,qB,qC,qD,qE,↓reduceIte,qG,qH,qI]
  subst hQ
  refine ⟨rfl,?_⟩
  simp only [shapeF,h1,if_true,Bool.false_eq_true,if_false]
 have n1:orB op [1,41]=false:=hb
 clear hb
 clear ht
 simp -implicitDefEqProofs (disch:=first|exact dz _|fail) only [↓qJ,qK,qL,qA,qB,qC,qD,qE,↓reduceIte,qG,qH,qI,e5]
 refine cI_bool (fun hb=>?_) (fun hb=>?_)
 ·have h2:orB op [36]=true:=(Bool.or_false _).trans hb
  simp -implicitDefEqProofs (disch:=first|exact dz _|fail) only [↓qJ,qK,qL,qA,qB,qC,qD,qE,↓reduceIte,qG,qH,qI]
  subst hQ
  refine ⟨rfl,?_⟩
  simp only [shapeF,n1,h2,if_true,Bool.false_eq_true,if_false]
 have n2:orB op [36]=false:=(Bool.or_false _).trans hb
 clear hb
 simp -implicitDefEqProofs (disch:=first|exact dz _|fail) only [↓qJ,qK,qL,qA,qB,qC,qD,qE,↓reduceIte,qG,qH,qI,e5]
 refine cI_or (t:=11) (s:=5) (x:=op) (by decide) [(13,37),(14,38)] (by simp -implicitDefEqProofs (disch:=first|exact dz _|fail) only [↓qJ,qK,qL,qA,qB,qC,qD,qE,↓reduceIte,qG,qH,qI,e5]) (by simp -implicitDefEqProofs (disch:=first|exact dz _|fail) only [↓qJ,qK,qL,qA,qB,qC,qD,qE,↓reduceIte,qG,qH,qI,e5]) (by decide) ?_
 intro e' ht hk
 have e5':Env.val e' 5=.int .i64 op:=(hk 5 (by decide) (by decide)).trans (by simp -implicitDefEqProofs (disch:=first|exact dz _|fail) only [↓qJ,qK,qL,qA,qB,qC,qD,qE,↓reduceIte,qG,qH,qI,e5])
 clear hk
 try clear e5
 have e5:=e5'
 clear e5'
 simp -implicitDefEqProofs (disch:=first|exact dz _|fail) only [↓qJ,qK,qL,qA,qB,qC,qD,qE,↓reduceIte,qG,qH,qI,ht]
 refine cI_bool (fun hb=>?_) (fun hb=>?_)
 ·have h3:orB op [35,37,38]=true:=hb
  simp -implicitDefEqProofs (disch:=first|exact dz _|fail) only [↓qJ,qK,qL,qA,qB,qC,qD,qE,↓reduceIte,qG,qH,qI]
  subst hQ
  refine ⟨rfl,?_⟩
  simp only [shapeF,n1,n2,h3,if_true,Bool.false_eq_true,if_false]
 have n3:orB op [35,37,38]=false:=hb
 clear hb
 clear ht
 simp -implicitDefEqProofs (disch:=first|exact dz _|fail) only [↓qJ,qK,qL,qA,qB,qC,qD,qE,↓reduceIte,qG,qH,qI,e5]
 refine cI_bool (fun hb=>?_) (fun hb=>?_)
 ·have h4:orB op [45]=true:=(Bool.or_false _).trans hb
  simp -implicitDefEqProofs (disch:=first|exact dz _|fail) only [↓qJ,qK,qL,qA,qB,qC,qD,qE,↓reduceIte,qG,qH,qI]
  subst hQ
  refine ⟨rfl,?_⟩
  simp only [shapeF,n1,n2,n3,h4,if_true,Bool.false_eq_true,if_false]
 have n4:orB op [45]=false:=(Bool.or_false _).trans hb
 clear hb
 simp -implicitDefEqProofs (disch:=first|exact dz _|fail) only [↓qJ,qK,qL,qA,qB,qC,qD,qE,↓reduceIte,qG,qH,qI,e5]
 refine cI_bool (fun hb=>?_) (fun hb=>?_)
 ·have h5:orB op [47]=true:=(Bool.or_false _).trans hb
  simp -implicitDefEqProofs (disch:=first|exact dz _|fail) only [↓qJ,qK,qL,qA,qB,qC,qD,qE,↓reduceIte,qG,qH,qI]
  subst hQ
  refine ⟨rfl,?_⟩
  simp only [shapeF,n1,n2,n3,n4,h5,if_true,Bool.false_eq_true,if_false]
 have n5:orB op [47]=false:=(Bool.or_false _).trans hb
 clear hb
 simp -implicitDefEqProofs (disch:=first|exact dz _|fail) only [↓qJ,qK,qL,qA,qB,qC,qD,qE,↓reduceIte,qG,qH,qI,e5]
 refine cI_or (t:=19) (s:=5) (x:=op) (by decide) [(21,39),(22,44),(23,46),(24,48),(25,52)] (by simp -implicitDefEqProofs (disch:=first|exact dz _|fail) only [↓qJ,qK,qL,qA,qB,qC,qD,qE,↓reduceIte,qG,qH,qI,e5]) (by simp -implicitDefEqProofs (disch:=first|exact dz _|fail) only [↓qJ,qK,qL,qA,qB,qC,qD,qE,↓reduceIte,qG,qH,qI,e5]) (by decide) ?_
 intro e' ht hk
 have e5':Env.val e' 5=.int .i64 op:=(hk 5 (by decide) (by decide)).trans (by simp -implicitDefEqProofs (disch:=first|exact dz _|fail) only [↓qJ,qK,qL,qA,qB,qC,qD,qE,↓reduceIte,qG,qH,qI,e5])
 clear hk
 try clear e5
 have e5:=e5'
 clear e5'
 simp -implicitDefEqProofs (disch:=first|exact dz _|fail) only [↓qJ,qK,qL,qA,qB,qC,qD,qE,↓reduceIte,qG,qH,qI,ht]
 refine cI_bool (fun hb=>?_) (fun hb=>?_)
 ·have h6:orB op [24,39,44,46,48,52]=true:=hb
  simp -implicitDefEqProofs (disch:=first|exact dz _|fail) only [↓qJ,qK,qL,qA,qB,qC,qD,qE,↓reduceIte,qG,qH,qI]
  subst hQ
  refine ⟨rfl,?_⟩
  simp only [shapeF,n1,n2,n3,n4,n5,h6,if_true,Bool.false_eq_true,if_false]
 have n6:orB op [24,39,44,46,48,52]=false:=hb
 clear hb
 clear ht
 simp -implicitDefEqProofs (disch:=first|exact dz _|fail) only [↓qJ,qK,qL,qA,qB,qC,qD,qE,↓reduceIte,qG,qH,qI,e5]
 refine cI_or (t:=26) (s:=5) (x:=op) (by decide) [(28,21),(29,22),(30,25),(31,26),(32,28),(33,33),(34,34),(35,40),(36,42),(37,49),(38,50),(39,51)] (by simp -implicitDefEqProofs (disch:=first|exact dz _|fail) only [↓qJ,qK,qL,qA,qB,qC,qD,qE,↓reduceIte,qG,qH,qI,e5]) (by simp -implicitDefEqProofs (disch:=first|exact dz _|fail) only [↓qJ,qK,qL,qA,qB,qC,qD,qE,↓reduceIte,qG,qH,qI,e5]) (by decide) ?_
 intro e' ht hk
 have e5':Env.val e' 5=.int .i64 op:=(hk 5 (by decide) (by decide)).trans (by simp -implicitDefEqProofs (disch:=first|exact dz _|fail) only [↓qJ,qK,qL,qA,qB,qC,qD,qE,↓reduceIte,qG,qH,qI,e5])
 clear hk
 try clear e5
 have e5:=e5'
 clear e5'
 simp -implicitDefEqProofs (disch:=first|exact dz _|fail) only [↓qJ,qK,qL,qA,qB,qC,qD,qE,↓reduceIte,qG,qH,qI,ht]
 refine cI_bool (fun hb=>?_) (fun hb=>?_)
 ·have h7:orB op [2,21,22,25,26,28,33,34,40,42,49,50,51]=true:=hb
  simp -implicitDefEqProofs (disch:=first|exact dz _|fail) only [↓qJ,qK,qL,qA,qB,qC,qD,qE,↓reduceIte,qG,qH,qI]
  subst hQ
  refine ⟨rfl,?_⟩
  simp only [shapeF,n1,n2,n3,n4,n5,n6,h7,if_true,Bool.false_eq_true,if_false]
 have n7:orB op [2,21,22,25,26,28,33,34,40,42,49,50,51]=false:=hb
 clear hb
 clear ht
 simp -implicitDefEqProofs (disch:=first|exact dz _|fail) only [↓qJ,qK,qL,qA,qB,qC,qD,qE,↓reduceIte,qG,qH,qI,e5]
 subst hQ
 refine ⟨rfl,?_⟩
 simp only [shapeF,n1,n2,n3,n4,n5,n6,n7,Bool.false_eq_true,if_false]
def formB (i:PIns):Bool:=decide ((shapeF i.op).1<1)&&!decide (i.a=0)||decide ((shapeF i.op).1<2)&&!decide (i.b=0)||decide ((shapeF i.op).1<3)&&!decide (i.c=0)||!(shapeF i.op).2.1&&!decide ((i.imm:Int)=0)||!(shapeF i.op).2.2&&!decide ((i.list.length:Int)=0)
def formF (i:PIns):Int:=if formB i=true then 8 else if 24<i.list.length then 16 else 0
set_option maxHeartbeats 1000000 in
theorem plain {h:AHeap} {c:Nat} {p:PProg} {f:PFunc} {i:PIns} (C:CkR h c p f i) :
  CallP AP 74 [.ptr c 0 0,.int .i64 (shapeF i.op).1,.bool (shapeF i.op).2.1,.bool (shapeF i.op).2.2] h fun r h'=>HFrame h h' [] []∧r=.int .i64 (formF i):=by
 obtain ⟨tv,gv,fv,sv,rv,cv,at_,lv,g,lt,s1,s2,s3,s4,s5,s6,hi,s7⟩:=C
 refine callP (rfl:Tr.get AP 74=some A74) ?_
 generalize hQ:(fun (r:AVal) (h':AHeap)=>_)=Q
 have l7:=s7.len
 have c7:=SlIn.cellv s7
 have f0:=((HFrame.refl (h:=h) (F:=[]) (by simp)).pushTmp (.cells 0 false [.int .i64 0,.int .i64 0,.int .i64 0,.int .i64 0,.int .u64 0,.nils])).setTmp (i:=h.n) (Nat.le_refl _) (.cells 0 false [.int .i64 i.op,.int .i64 i.a,.int .i64 i.b,.int .i64 i.c,.int .u64 i.imm,lv])
 simp -implicitDefEqProofs (disch:=first|exact dz _|fail) only [RGB,↓qJ,qK,qL,qA,qB,qC,qD,qE,↓reduceIte,qG,qH,qI,g,l7,c7]
 refine cI_bool (fun hb=>?_) (fun hb=>?_)
 ·have hb':formB i=true:=hb
  simp -implicitDefEqProofs (disch:=first|exact dz _|fail) only [↓qJ,qK,qL,qA,qB,qC,qD,qE,↓reduceIte,qG,qH,qI]
  subst hQ
  exact ⟨f0,by rw [formF,if_pos hb']⟩
 ·have hb':formB i=false:=hb
  simp -implicitDefEqProofs (disch:=first|exact dz _|fail) only [↓qJ,qK,qL,qA,qB,qC,qD,qE,↓reduceIte,qG,qH,qI,l7]
  refine cI_bool (fun hc=>?_) (fun hc=>?_)
  ·simp -implicitDefEqProofs (disch:=first|exact dz _|fail) only [↓qJ,qK,qL,qA,qB,qC,qD,qE,↓reduceIte,qG,qH,qI]
   subst hQ
   simp only [decide_eq_true_eq] at hc
   exact ⟨f0,by rw [formF,if_neg (by simp [hb']),if_pos (by omega)]⟩
  ·simp -implicitDefEqProofs (disch:=first|exact dz _|fail) only [↓qJ,qK,qL,qA,qB,qC,qD,qE,↓reduceIte,qG,qH,qI]
   subst hQ
   simp only [decide_eq_false_iff_not] at hc
   exact ⟨f0,by rw [formF,if_neg (by simp [hb']),if_neg (by omega)]⟩
set_option maxHeartbeats 1000000 in
theorem alike {h:AHeap} {c:Nat} {p:PProg} {f:PFunc} {i:PIns} (C:CkR h c p f i) {v:AVal} {l:List Int} (L:SlIn h 1 encK v l) (hl:l.length<1073741824) (w:AVal) (is:Int→Bool) (fid:Nat) (hw:w=.fn (.func fid) [] [])
  (his:∀ (k:Int) (h:AHeap),CallP AP fid [.int .i64 k] h fun r h'=>h'=h∧r=.bool (is k)) :
  CallP AP 76 [.ptr c 0 0,w,v] h fun r h'=>h'=h∧r=.int .i64 (alikeF f.slots is l):=by
 refine callP (rfl:Tr.get AP 76=some A76) ?_
 generalize hQ:(fun (r:AVal) (h':AHeap)=>_)=Q
 have ll:=L.len
 simp -implicitDefEqProofs (disch:=first|exact dz _|fail) only [↓qJ,qK,qL,qA,qB,qC,qD,qE,↓reduceIte,qG,qH,qI,ll]
 refine loopI_of (fun k e h'=>∃ x:Nat,k+x=l.length∧e.val 0=.ptr c 0 0∧e.val 1=w∧e.val 2=v∧e.val 7=.int .i64 (-1)∧e.val 16=v∧e.val 17=.int .i64 l.length∧e.val 18=.int .i64 x∧h'=h∧l.any (fun n=>(slotK f.slots n).isNone)=(l.drop x).any (fun n=>(slotK f.slots n).isNone)) l.length ?_ ?_
 ·refine ⟨0,by omega,?_,?_,?_,?_,?_,?_,?_,rfl,by simp⟩<;>simp -implicitDefEqProofs (disch:=first|exact dz _|fail) only [↓qJ,qK,qL,qA,qB,qC,qD,qE,↓reduceIte,qG,qH,qI]<;>rfl
 ·rintro k e h' ⟨x,hk,e0,e1,e2,e7,e16,e17,e18,rfl,ha⟩
  simp -implicitDefEqProofs (disch:=first|exact dz _|fail) only [↓qJ,qK,qL,qA,qB,qC,qD,qE,↓reduceIte,qG,qH,qI,e16,e17,e18]
  refine cI_bool (fun hb=>?_) (fun hb=>?_)
  ·simp only [decide_eq_true_eq] at hb
   obtain ⟨a,hx⟩:∃ a,l[x]?=some a:=⟨_,List.getElem?_eq_getElem (by omega)⟩
   obtain ⟨j,g,off,vs,ro,x1,x2,x3,x5⟩:=(L.rd hx).ix1 (enc:=fun n=>.int .i64 n) hx .i64
   have hw1:IntKind.i64.wrap ((x:Int)+1)=((x+1:Nat):Int):=(wrap64 (by omega) (by omega)).trans (by omega)
   rw [any_drop hx] at ha
   simp -implicitDefEqProofs (disch:=first|exact dz _|fail) only [↓qJ,qK,qL,qA,qB,qC,qD,qE,↓reduceIte,qG,qH,qI,e0,e16,e17,e18,x1,x2,x5]
   refine callI_of (slot C a) ?_
   rintro r h2 ⟨rfl,rfl⟩
   simp -implicitDefEqProofs (disch:=first|exact dz _|fail) only [↓qJ,qK,qL,qA,qB,qC,qD,qE,↓reduceIte,qG,qH,qI,e0,e16,e17,e18]
   refine cI_bool (fun hc=>?_) (fun hc=>?_)
   ·simp -implicitDefEqProofs (disch:=first|exact dz _|fail) only [↓qJ,qK,qL,qA,qB,qC,qD,qE,↓reduceIte,qG,qH,qI]
    subst hQ
    have:(slotK f.slots a).isNone=true:=by simpa using hc
    rw [alikeF,ha,this]
    exact ⟨rfl,rfl⟩
   ·simp -implicitDefEqProofs (disch:=first|exact dz _|fail) only [↓qJ,qK,qL,qA,qB,qC,qD,qE,↓reduceIte,qG,qH,qI,e0,e1,e2,e7,e16,e17,e18,hw1]
    have:(slotK f.slots a).isNone=false:=by simpa using hc
    rw [this,Bool.false_or] at ha
    exact ⟨l.length-(x+1),by omega,x+1,by omega,rfl,ha⟩
  ·simp only [decide_eq_false_iff_not] at hb
   rw [List.drop_of_length_le (by omega),List.any_nil] at ha
   simp -implicitDefEqProofs (disch:=first|exact dz _|fail) only [↓qJ,qK,qL,qA,qB,qC,qD,qE,↓reduceIte,qG,qH,qI,e2,ll]
   have hsome:∀ {n:Int},n∈l→∃ k,slotK f.slots n=some k:=fun {n} hn=>by
    cases hq:slotK f.slots n with
    | some k=>exact ⟨k,rfl⟩
    | none =>
     have:=List.any_eq_false.1 ha n hn
     rw [hq] at this;simp at this
   refine loopI_of (fun k e h2=>∃ x:Nat,k+x=l.length∧e.val 0=.ptr c 0 0∧e.val 1=w∧(0<x→e.val 7=.int .i64 ((slotK f.slots (l.headD 0)).getD 0))∧e.val 31=v∧e.val 32=.int .i64 l.length∧e.val 33=.int .i64 x∧h2=h' ∧
    l.any (fun n=>slotK f.slots n != slotK f.slots (l.headD 0)||!is ((slotK f.slots n).getD 0))=(l.drop x).any (fun n=>slotK f.slots n != slotK f.slots (l.headD 0)||!is ((slotK f.slots n).getD 0))) l.length ?_ ?_
   ·refine ⟨0,by omega,?_,?_,by omega,?_,?_,?_,rfl,by simp⟩<;>simp -implicitDefEqProofs (disch:=first|exact dz _|fail) only [↓qJ,qK,qL,qA,qB,qC,qD,qE,↓reduceIte,qG,qH,qI,e0,e1]<;>rfl
   ·clear hb e0 e1 e2 e7 e16 e17 e18 hk
    rintro k e h2 ⟨x,hk,e0,e1,e7,e31,e32,e33,rfl,hA⟩
    simp -implicitDefEqProofs (disch:=first|exact dz _|fail) only [↓qJ,qK,qL,qA,qB,qC,qD,qE,↓reduceIte,qG,qH,qI,e31,e32,e33]
    refine cI_bool (fun hb=>?_) (fun hb=>?_)
    ·simp only [decide_eq_true_eq] at hb
     obtain ⟨a,hx⟩:∃ a,l[x]?=some a:=⟨_,List.getElem?_eq_getElem (by omega)⟩
     obtain ⟨j,g,off,vs,ro,x1,x2,x3,x5⟩:=(L.rd hx).ix1 (enc:=fun n=>.int .i64 n) hx .i64
     have hw1:IntKind.i64.wrap ((x:Int)+1)=((x+1:Nat):Int):=(wrap64 (by omega) (by omega)).trans (by omega)
     obtain ⟨ka,hka⟩:=hsome (List.mem_of_getElem? hx)
     obtain ⟨b,hb0⟩:∃ b,l[0]?=some b:=⟨_,List.getElem?_eq_getElem (by omega)⟩
     have hd0:l.headD 0=b:=by cases l<;>simp_all
     obtain ⟨kb,hkb⟩:=hsome (List.mem_of_getElem? hb0)
     rw [any_drop hx] at hA
     simp -implicitDefEqProofs (disch:=first|exact dz _|fail) only [↓qJ,qK,qL,qA,qB,qC,qD,qE,↓reduceIte,qG,qH,qI,e0,e1,e31,e32,e33,x1,x2,x5]
     refine callI_of (slot C a) ?_
     rintro r h2 ⟨rfl,rfl⟩
     rw [hka]
     simp -implicitDefEqProofs (disch:=first|exact dz _|fail) only [↓qJ,qK,qL,qA,qB,qC,qD,qE,↓reduceIte,qG,qH,qI,e0,e1,e31,e32,e33]
     have e7':0<x→e.val 7=.int .i64 kb:=fun h=>by rw [e7 h,hd0,hkb];rfl
     refine AM.cI_cut (fun e' h3=>h3=h2∧e'.val 0=.ptr c 0 0∧e'.val 1=w∧e'.val 14=.int .i64 ka∧e'.val 7=.int .i64 kb∧e'.val 31=v∧e'.val 32=.int .i64 l.length∧e'.val 33=.int .i64 x) ?_ ?_
     ·intro e' h3 ⟨hh,v0,v1,v14,v7,v31,v32,v33⟩
      subst hh
      simp -implicitDefEqProofs (disch:=first|exact dz _|fail) only [↓qJ,qK,qL,qA,qB,qC,qD,qE,↓reduceIte,qG,qH,qI,v1,v7,v14]
      have hlast:(slotK f.slots a != slotK f.slots (l.headD 0)||!is ((slotK f.slots a).getD 0))=(!decide (ka=kb)||!is ka):=by
       rw [hka,hd0,hkb]
       by_cases hq:ka=kb<;>simp [hq]
      rw [hlast] at hA
      refine AM.gI_bool (fun hc=>?_) (fun hc=>?_)
      ·have hc':decide (ka=kb)=false:=by simpa using hc
       simp -implicitDefEqProofs (disch:=first|exact dz _|fail) only [↓qJ,qK,qL,qA,qB,qC,qD,qE,↓reduceIte,qG,qH,qI,hc']
       subst hQ
       rw [alikeF,ha,hA,hc']
       exact ⟨rfl,rfl⟩
      ·have hc':decide (ka=kb)=true:=by simpa using hc
       rw [hc',Bool.not_true,Bool.false_or] at hA
       simp -implicitDefEqProofs (disch:=first|exact dz _|fail) only [↓qJ,qK,qL,qA,qB,qC,qD,qE,↓reduceIte,qG,qH,qI,v1,v14,hw,hc']
       refine callI_of (his ka h3) ?_
       rintro r h4 ⟨rfl,rfl⟩
       simp -implicitDefEqProofs (disch:=first|exact dz _|fail) only [↓qJ,qK,qL,qA,qB,qC,qD,qE,↓reduceIte,qG,qH,qI,hc']
       refine cI_bool (fun hd=>?_) (fun hd=>?_)
       ·simp -implicitDefEqProofs (disch:=first|exact dz _|fail) only [↓qJ,qK,qL,qA,qB,qC,qD,qE,↓reduceIte,qG,qH,qI]
        subst hQ
        rw [alikeF,ha,hA,hd]
        exact ⟨rfl,rfl⟩
       ·simp -implicitDefEqProofs (disch:=first|exact dz _|fail) only [↓qJ,qK,qL,qA,qB,qC,qD,qE,↓reduceIte,qG,qH,qI,v0,v1,v7,v31,v32,v33,hw1]
        rw [hd,Bool.false_or] at hA
        exact ⟨l.length-(x+1),by omega,x+1,by omega,hw,fun _=>by rw [hd0,hkb];rfl,rfl,hA⟩
     ·refine cI_bool (fun hc=>?_) (fun hc=>?_)
      ·have hx0:x=0:=by simp only [decide_eq_true_eq] at hc;omega
       subst hx0
       have hab:a=b:=by rw [hx] at hb0;exact Option.some.inj hb0
       subst hab
       have hkk:ka=kb:=by rw [hka] at hkb;exact Option.some.inj hkb
       subst hkk
       simp -implicitDefEqProofs (disch:=first|exact dz _|fail) only [↓qJ,qK,qL,qA,qB,qC,qD,qE,↓reduceIte,qG,qH,qI,e0,e1,e31,e32,e33]
       rfl
      ·have hx0:0<x:=by simp only [decide_eq_false_iff_not] at hc;omega
       simp -implicitDefEqProofs (disch:=first|exact dz _|fail) only [↓qJ,qK,qL,qA,qB,qC,qD,qE,↓reduceIte,qG,qH,qI,e0,e1,e31,e32,e33,e7' hx0]
       rfl
    ·simp only [decide_eq_false_iff_not] at hb
     rw [List.drop_of_length_le (by omega),List.any_nil] at hA
     simp -implicitDefEqProofs (disch:=first|exact dz _|fail) only [↓qJ,qK,qL,qA,qB,qC,qD,qE,↓reduceIte,qG,qH,qI]
     subst hQ
     rw [alikeF,ha,hA]
     exact ⟨rfl,rfl⟩
end Go.Proofs.Ytnbnpjhlflcjeaa.Id.V
namespace Go.Proofs.Ytnbnpjhlflcjeaa.Id.V
open Go Go.AM Go.Proofs.Ytnbnpjhlflcjeaa.AmGF
open Nat renaming reduceAdd → qA,reduceLeDiff → qB,reduceEqDiff → qC,reduceLT → qE
open Int renaming reduceToNat → qD,reduceEq → qG,reduceLT → qH,reduceLE → qI
section
variable {h1:AHeap} {c:Nat} {p:PProg} {f:PFunc} {i:PIns} (C:CkR h1 c p f i)
 include C
theorem are1 (a x:Int):CallP AP 79 [.ptr c 0 0,.sl h1.n 0 0 2 1] (h1.push (.cells 0 false [.int .i64 a,.int .i64 x])) fun r h'=>HFrame h1 h' [] []∧r=.int .i64 (areF f.slots [(a,x)]):=by
 have f1:=(HFrame.refl (h:=h1) (F:=[]) (by simp)).pushTmp (.cells 0 false [.int .i64 a,.int .i64 x])
 exact (are (C.keep f1) (l:=[(a,x)]) (.inl (.inr ⟨h1.n,0,0,_,false,rfl,AHeap.get_push_same _ _,by simp,by simp [flat],by simp [flat]⟩)) (by simp)).mono fun r h' ⟨e,q⟩=>⟨e ▸ f1,q⟩
theorem are2 (a x b y:Int):CallP AP 79 [.ptr c 0 0,.sl h1.n 0 0 4 1] (h1.push (.cells 0 false [.int .i64 a,.int .i64 x,.int .i64 b,.int .i64 y])) fun r h'=>HFrame h1 h' [] []∧r=.int .i64 (areF f.slots [(a,x),(b,y)]):=by
 have f1:=(HFrame.refl (h:=h1) (F:=[]) (by simp)).pushTmp (.cells 0 false [.int .i64 a,.int .i64 x,.int .i64 b,.int .i64 y])
 exact (are (C.keep f1) (l:=[(a,x),(b,y)]) (.inl (.inr ⟨h1.n,0,0,_,false,rfl,AHeap.get_push_same _ _,by simp,by simp [flat],by simp [flat]⟩)) (by simp)).mono fun r h' ⟨e,q⟩=>⟨e ▸ f1,q⟩
theorem are3 (a x b y d z:Int):CallP AP 79 [.ptr c 0 0,.sl h1.n 0 0 6 1] (h1.push (.cells 0 false [.int .i64 a,.int .i64 x,.int .i64 b,.int .i64 y,.int .i64 d,.int .i64 z])) fun r h'=>HFrame h1 h' [] []∧r=.int .i64 (areF f.slots [(a,x),(b,y),(d,z)]):=by
 have f1:=(HFrame.refl (h:=h1) (F:=[]) (by simp)).pushTmp (.cells 0 false [.int .i64 a,.int .i64 x,.int .i64 b,.int .i64 y,.int .i64 d,.int .i64 z])
 exact (are (C.keep f1) (l:=[(a,x),(b,y),(d,z)]) (.inl (.inr ⟨h1.n,0,0,_,false,rfl,AHeap.get_push_same _ _,by simp,by simp [flat],by simp [flat]⟩)) (by simp)).mono fun r h' ⟨e,q⟩=>⟨e ▸ f1,q⟩
theorem alike1 (w:AVal) (is:Int→Bool) (fid:Nat) (hw:w=.fn (.func fid) [] [])
  (his:∀ (k:Int) (h:AHeap),CallP AP fid [.int .i64 k] h fun r h'=>h'=h∧r=.bool (is k)) (a:Int):CallP AP 76 [.ptr c 0 0,w,.sl h1.n 0 0 1 1] (h1.push (.cells 0 false [.int .i64 a])) fun r h'=>HFrame h1 h' [] []∧r=.int .i64 (alikeF f.slots is [a]):=by
 have f1:=(HFrame.refl (h:=h1) (F:=[]) (by simp)).pushTmp (.cells 0 false [.int .i64 a])
 exact (alike (C.keep f1) (l:=[a]) (.inl (.inr ⟨h1.n,0,0,_,false,rfl,AHeap.get_push_same _ _,by simp,by simp,by simp⟩)) (by simp) w is fid hw his).mono fun r h' ⟨e,q⟩=>⟨e ▸ f1,q⟩
theorem alike2 (w:AVal) (is:Int→Bool) (fid:Nat) (hw:w=.fn (.func fid) [] [])
  (his:∀ (k:Int) (h:AHeap),CallP AP fid [.int .i64 k] h fun r h'=>h'=h∧r=.bool (is k)) (a b:Int):CallP AP 76 [.ptr c 0 0,w,.sl h1.n 0 0 2 1] (h1.push (.cells 0 false [.int .i64 a,.int .i64 b])) fun r h'=>HFrame h1 h' [] []∧r=.int .i64 (alikeF f.slots is [a,b]):=by
 have f1:=(HFrame.refl (h:=h1) (F:=[]) (by simp)).pushTmp (.cells 0 false [.int .i64 a,.int .i64 b])
 exact (alike (C.keep f1) (l:=[a,b]) (.inl (.inr ⟨h1.n,0,0,_,false,rfl,AHeap.get_push_same _ _,by simp,by simp,by simp⟩)) (by simp) w is fid hw his).mono fun r h' ⟨e,q⟩=>⟨e ▸ f1,q⟩
end
def toF (f:PFunc) (n:Int):Int:=if n<0∨f.code.length≤n then 12 else 0
def jumpF (f:PFunc) (i:PIns):Int:=if i.op=25 then if areF f.slots [(i.a,0)]≠0 then areF f.slots [(i.a,0)] else toF f i.b else toF f i.a
theorem _root_.Go.Proofs.Ytnbnpjhlflcjeaa.Id.InsR.keep {h h':AHeap} {i:PIns} {row:List AVal} (r:InsR h i row) {F:List Nat} (f:HFrame h h' [] F):InsR h' i row:=InsR.mono f.n (fun j hj=>f.get j hj (by simp)) r
set_option maxHeartbeats 1000000 in
theorem jump {h:AHeap} {c:Nat} {p:PProg} {f:PFunc} {i:PIns} (C:CkR h c p f i) {row:List AVal} (R:InsR h i row) :
  CallP AP 80 [.ptr c 0 0,.agg row] h fun r h'=>HFrame h h' [] []∧r=.int .i64 (jumpF f i):=by
 obtain ⟨_,lw,rfl,L⟩:=R
 refine callP (rfl:Tr.get AP 80=some A80) ?_
 generalize hQ:(fun (r:AVal) (h':AHeap)=>_)=Q
 have cl:=SlIn.cellv L
 have f0:=(HFrame.refl (h:=h) (F:=[]) (by simp)).pushTmp (.cells 0 false [.int .i64 i.op,.int .i64 i.a,.int .i64 i.b,.int .i64 i.c,.int .u64 i.imm,lw])
 have C0:=C
 obtain ⟨tv,gv,fv,sv,rv,cv,at_,lv,g,lt,s1,s2,s3,s4,s5,s6,hi,s7⟩:=C
 have l6:=s6.len
 simp -implicitDefEqProofs (disch:=first|exact dz _|fail) only [RGB,↓qJ,qK,qL,qA,qB,qC,qD,qE,↓reduceIte,qG,qH,qI,cl]
 have gB:(h.push (.cells 0 false [.int .i64 i.op,.int .i64 i.a,.int .i64 i.b,.int .i64 i.c,.int .u64 i.imm,lw])).get h.n=_:=AHeap.get_push_same _ _
 have gC:=(f0.get c lt (by simp)).trans g
 have hn0:h.n<(h.push (.cells 0 false [.int .i64 i.op,.int .i64 i.a,.int .i64 i.b,.int .i64 i.c,.int .u64 i.imm,lw])).n:=by simp
 generalize h.push (.cells 0 false [.int .i64 i.op,.int .i64 i.a,.int .i64 i.b,.int .i64 i.c,.int .u64 i.imm,lw])=h1 at *
 refine cI_bool (fun ho=>?_) (fun ho=>?_)
 ·simp only [decide_eq_true_eq] at ho
  simp -implicitDefEqProofs (disch:=first|exact dz _|fail) only [RGB,↓qJ,qK,qL,qA,qB,qC,qD,qE,↓reduceIte,qG,qH,qI,a_buildSlice,List.range,List.range.loop,List.getD_cons_zero,Nat.mod_one,gB]
  refine callI_of (are1 (C0.keep f0) i.a 0) ?_
  rintro r h2 ⟨f12,rfl⟩
  have f2:=f0.trans f12
  have gC2:=(f2.get c lt (by simp)).trans g
  have gB2:=(f12.get h.n hn0 (by simp)).trans gB
  have hn2:h.n<h2.n:=by have:=f12.n;omega
  simp -implicitDefEqProofs (disch:=first|exact dz _|fail) only [↓qJ,qK,qL,qA,qB,qC,qD,qE,↓reduceIte,qG,qH,qI]
  refine cI_bool (fun hc=>?_) (fun hc=>?_)
  ·simp -implicitDefEqProofs (disch:=first|exact dz _|fail) only [↓qJ,qK,qL,qA,qB,qC,qD,qE,↓reduceIte,qG,qH,qI]
   subst hQ
   have hc':areF f.slots [(i.a,0)]≠0:=by simpa using hc
   exact ⟨f2,by rw [jumpF,if_pos ho,if_pos hc']⟩
  ·have hc':¬ areF f.slots [(i.a,0)]≠0:=by simpa using hc
   simp -implicitDefEqProofs (disch:=first|exact dz _|fail) only [RGB,↓qJ,qK,qL,qA,qB,qC,qD,qE,↓reduceIte,qG,qH,qI,gB2,gC2,l6]
   refine cI_bool (fun hd=>?_) (fun hd=>?_)
   ·simp -implicitDefEqProofs (disch:=first|exact dz _|fail) only [↓qJ,qK,qL,qA,qB,qC,qD,qE,↓reduceIte,qG,qH,qI]
    subst hQ
    simp only [Bool.or_eq_true,decide_eq_true_eq] at hd
    exact ⟨f2,by rw [jumpF,if_pos ho,if_neg hc',toF,if_pos (by omega)]⟩
   ·simp -implicitDefEqProofs (disch:=first|exact dz _|fail) only [↓qJ,qK,qL,qA,qB,qC,qD,qE,↓reduceIte,qG,qH,qI]
    subst hQ
    simp only [Bool.or_eq_false_iff,decide_eq_false_iff_not] at hd
    exact ⟨f2,by rw [jumpF,if_pos ho,if_neg hc',toF,if_neg (by omega)]⟩
 ·simp only [decide_eq_false_iff_not] at ho
  simp -implicitDefEqProofs (disch:=first|exact dz _|fail) only [RGB,↓qJ,qK,qL,qA,qB,qC,qD,qE,↓reduceIte,qG,qH,qI,l6,gB,gC]
  refine cI_bool (fun hd=>?_) (fun hd=>?_)
  ·simp -implicitDefEqProofs (disch:=first|exact dz _|fail) only [↓qJ,qK,qL,qA,qB,qC,qD,qE,↓reduceIte,qG,qH,qI]
   subst hQ
   simp only [Bool.or_eq_true,decide_eq_true_eq] at hd
   exact ⟨f0,by rw [jumpF,if_neg ho,toF,if_pos (by omega)]⟩
  ·simp -implicitDefEqProofs (disch:=first|exact dz _|fail) only [↓qJ,qK,qL,qA,qB,qC,qD,qE,↓reduceIte,qG,qH,qI]
   subst hQ
   simp only [Bool.or_eq_false_iff,decide_eq_false_iff_not] at hd
   exact ⟨f0,by rw [jumpF,if_neg ho,toF,if_neg (by omega)]⟩
def objF (p:PProg) (sl:List Int) (n:Int) (arr:Bool):Int×(Bool×List Int) :=
 match slotK sl n with
 | none=>(11,(false,[]))
 | some k=>if k<16∨64≤k then (10,(false,[])) else
  match p.types[(k-16).toNat]? with
  | none=>(0,(false,[]))
  | some t=>if t.1≠arr then (14,(false,[])) else (0,t)
def Hs (p:PProg) (sl:List Int):Prop:=∀ k,k∈sl→k=2∨kindF p.types.length k=true
theorem Hs.at {p:PProg} {sl:List Int} (H:Hs p sl) {n k:Int} (h:slotK sl n=some k):k=2∨kindF p.types.length k=true:=by
 unfold slotK at h
 split at h
 ·exact H k (List.mem_of_getElem? h)
 ·cases h
theorem kind_ptr {nt:Nat} {k:Int} (h:kindF nt k=true) (h1:16≤k) (h2:k<64):k-16<nt:=by
 unfold kindF kind1 at h
 rw [decide_eq_false (by omega:¬ (64≤k∧k<128))] at h
 simp only [Bool.false_and,Bool.or_false,decide_eq_true_eq] at h
 omega
set_option maxHeartbeats 1000000 in
theorem object {h:AHeap} {c:Nat} {p:PProg} {f:PFunc} {i:PIns} (C:CkR h c p f i) (H:Hs p f.slots) (n:Int) (arr:Bool) :
  CallP AP 99 [.ptr c 0 0,.int .i64 n,.bool arr] h fun r h'=>HFrame h h' [] []∧∃ row,r=.tup [.agg row,.int .i64 (objF p f.slots n arr).1]∧TypeR h' (objF p f.slots n arr).2 row:=by
 have C0:=C
 obtain ⟨tv,gv,fv,sv,rv,cv,at_,lv,g,lt,s1,s2,s3,s4,s5,s6,hi,s7⟩:=C
 have l1:=s1.len
 refine callP (rfl:Tr.get AP 99=some A99) ?_
 generalize hQ:(fun (r:AVal) (h':AHeap)=>_)=Q
 have f0:=(HFrame.refl (h:=h) (F:=[]) (by simp)).pushTmp (.cells 0 false [.bool false,.nils])
 have gB:(h.push (.cells 0 false [.bool false,.nils])).get h.n=_:=AHeap.get_push_same _ _
 have gC:=(f0.get c lt (by simp)).trans g
 have hn0:h.n<(h.push (.cells 0 false [.bool false,.nils])).n:=by simp
 have hnn:(h.push (.cells 0 false [.bool false,.nils])).n=h.n+1:=by simp
 simp -implicitDefEqProofs (disch:=first|exact dz _|fail) only [RGB,↓qJ,qK,qL,qA,qB,qC,qD,qE,↓reduceIte,qG,qH,qI]
 generalize h.push (.cells 0 false [.bool false,.nils])=h1 at *
 refine callI_of (slot (C0.keep f0) n) ?_
 rintro r h2 ⟨rfl,rfl⟩
 simp -implicitDefEqProofs (disch:=first|exact dz _|fail) only [↓qJ,qK,qL,qA,qB,qC,qD,qE,↓reduceIte,qG,qH,qI]
 have nilT:∀ {h:AHeap},TypeR h (false,[]) [.bool false,.nils]:=⟨.nils,rfl,.inl (.inl ⟨rfl,rfl⟩)⟩
 refine cI_bool (fun hb=>?_) (fun hb=>?_)
 ·simp -implicitDefEqProofs (disch:=first|exact dz _|fail) only [RGB,↓qJ,qK,qL,qA,qB,qC,qD,qE,↓reduceIte,qG,qH,qI,gB,res_ct,retT_some]
  have hk:slotK f.slots n=none:=by simpa using hb
  subst hQ
  refine ⟨f0.setTmp (Nat.le_refl _) _,[.bool false,.nils],?_,?_⟩
  rotate_left
  ·rw [objF,hk];exact nilT
  ·rw [objF,hk]
 obtain ⟨k,hk⟩:∃ k,slotK f.slots n=some k:=by
  cases hq:slotK f.slots n with
  | some k=>exact ⟨k,rfl⟩
  | none=>rw [hq] at hb;simp at hb
 rw [hk,Option.getD_some]
 simp -implicitDefEqProofs (disch:=first|exact dz _|fail) only [RGB,↓qJ,qK,qL,qA,qB,qC,qD,qE,↓reduceIte,qG,qH,qI]
 refine cI_bool (fun hc=>?_) (fun hc=>?_)
 ·simp -implicitDefEqProofs (disch:=first|exact dz _|fail) only [RGB,↓qJ,qK,qL,qA,qB,qC,qD,qE,↓reduceIte,qG,qH,qI,gB,res_ct,retT_some]
  simp only [Bool.or_eq_true,decide_eq_true_eq] at hc
  subst hQ
  refine ⟨f0.setTmp (Nat.le_refl _) _,[.bool false,.nils],?_,?_⟩
  rotate_left
  ·rw [objF,hk];simp only;rw [if_pos hc];exact nilT
  ·rw [objF,hk];simp only;rw [if_pos hc]
 ·simp only [Bool.or_eq_false_iff,decide_eq_false_iff_not] at hc
  have hkt:=kind_ptr ((H.at hk).resolve_left (by omega)) (by omega) (by omega)
  obtain ⟨t,ht⟩:∃ t,p.types[(k-16).toNat]?=some t:=⟨_,List.getElem?_eq_getElem (by omega)⟩
  have hw:IntKind.i64.wrap (k-16)=k-16:=wrap64 (by omega) (by omega)
  have n1:=f0.n
  have k1:∀ j,j<h.n→h2.get j=h.get j:=fun j hj=>f0.get j hj (by simp)
  obtain ⟨j,g2,off,vs,ro,row,x1,x2,x3,x4,x5,x6,fl,rfl,xl⟩:=(s1.mono (h':=h2) (R':=TypeR h) (fun _ _ q=>q) n1 k1).ix ht .i64
  rw [show (((k-16).toNat:Nat):Int)=k-16 by omega] at x1
  have cfl:=SlIn.cellv xl
  obtain ⟨p1,p2⟩:=two_of x5
  simp -implicitDefEqProofs (disch:=first|exact dz _|fail) only [RGB,↓qJ,qK,qL,qA,qB,qC,qD,qE,↓reduceIte,qG,qH,qI,gC,hw,x1,x2,x5,cfl]
  refine cI_bool (fun hd=>?_) (fun hd=>?_)
  ·simp -implicitDefEqProofs (disch:=first|exact dz _|fail) only [RGB,↓qJ,qK,qL,qA,qB,qC,qD,qE,↓reduceIte,qG,qH,qI,gB,res_ct,retT_some]
   have hd':t.1≠arr:=by simpa using hd
   subst hQ
   refine ⟨((f0.pushTmp _).setTmp f0.n _).setTmp (Nat.le_refl _) _,[.bool false,.nils],?_,?_⟩
   rotate_left
   ·rw [objF,hk];simp only;rw [if_neg (by omega),ht];simp only;rw [if_pos hd'];exact nilT
   ·rw [objF,hk];simp only;rw [if_neg (by omega),ht];simp only;rw [if_pos hd']
  ·simp -implicitDefEqProofs (disch:=first|exact dz _|fail) only [RGB,↓qJ,qK,qL,qA,qB,qC,qD,qE,↓reduceIte,qG,qH,qI,gB,res_ct,retT_some,cfl]
   have hd':¬ t.1≠arr:=by simpa using hd
   subst hQ
   have fe:=((f0.pushTmp (.cells 0 false [.bool false,.nils])).setTmp (i:=h2.n) f0.n (.cells 0 false [.bool t.1,fl])).setTmp (i:=h.n) (Nat.le_refl _) (.cells 0 false [.bool t.1,fl])
   refine ⟨fe,[.bool t.1,fl],?_,?_⟩
   rotate_left
   ·rw [objF,hk];simp only;rw [if_neg (by omega),ht];simp only;rw [if_neg hd']
    exact ⟨fl,rfl,xl.keep fe⟩
   ·rw [objF,hk];simp only;rw [if_neg (by omega),ht];simp only;rw [if_neg hd']
end Go.Proofs.Ytnbnpjhlflcjeaa.Id.V