/-
 What the functions of this seat do,on the machine: lemmas for the laws.
-/
import Derived.Test.YthillgheddpmhaaDoorMX5
import Derived.Test.YthillgheddpmhaaDoorMX6
set_option linter.unusedSimpArgs false
set_option linter.unusedVariables false
set_option maxRecDepth 100000
attribute [local irreducible] Go.AM.wp Go.AM.wpIs Go.AM.wpTr Go.AM.opI Go.AM.gI Go.AM.cI Go.AM.trI Go.AM.callI Go.AM.fnI Go.AM.yldI Go.AM.rangeI Go.AM.rangeC Go.AM.YldP Go.AM.asgQ Go.AM.roundQ Go.AM.rangeQ Go.AM.trG Go.AM.trOp Go.AM.trCall Go.AM.seqC Go.AM.loopI
namespace Go.Proofs.YthillgheddpmhaaDoor.Pg
open Go Go.AM Go.Proofs.YthillgheddpmhaaDoor.AmGJ
open Nat (reduceAdd reduceLeDiff reduceEqDiff)
open Int (reduceToNat reduceEq reduceLE)
def cntF (f:Nat→Bool):Nat→Nat→Nat
 | 0,_=>0
 | k+1,p=>if f p=true then cntF f k (p+1)+1 else 0
theorem cntF_eq {f:Nat→Bool}:∀ (k p c:Nat),Row f p c→f (p+c)=false→c≤k→cntF f k p=c
 | 0,p,c,_,_,h=>by
  obtain rfl:c=0:=by omega
  rfl
 | k+1,p,0,_,h2,_=>by rw [cntF,if_neg];rw [Nat.add_zero] at h2;rw [h2];simp
 | k+1,p,c+1,h1,h2,h3=>by
  rw [cntF,if_pos (by have:=h1 0 (by omega);rwa [Nat.add_zero] at this),cntF_eq k (p+1) c (fun t ht=>by have:=h1 (1+t) (by omega);rwa [←Nat.add_assoc] at this) (by rwa [show p+1+c=p+(c+1) by omega]) (by omega)]
def rowsF (f:Nat→Bool) (n:Nat):Nat→Nat→List (Nat×Nat)
 | 0,_=>[]
 | k+1,p=>if p<n then (if 0<cntF f (n-p) p then [(p,cntF f (n-p) p)] else [])++rowsF f n k (p+cntF f (n-p) p+1) else []
set_option maxHeartbeats 4000000 in
theorem genW {h:AHeap} {p:PI} {n:Nat} {ws:List Nat} {id c:Nat} (hn4:n≤4096) (I:List (Nat×Nat)→AHeap→Prop) (J:AHeap→Prop) (hK:∀ l h,I l h→(∃ lv,PgV h p n ws lv)∧h.get c=.cells 0 false [.ptr p.id 0 0]∧c<h.n)
  (hy:∀ (l:List (Nat×Nat)) (h:AHeap) (a k:Nat) (t:List (Nat×Nat)),I l h→rowsF (fw ws) n n 0=l++(a,k)::t→YldP AP id [.int .i64 (a:Int),.int .i64 (k:Int)] h fun r h'=>(r=.bool true∧I (l++[(a,k)]) h')∨(r=.bool false∧J h')) (h0:I [] h) :
  CallP AP 84 [.yld id,.ptr c 0 0] h fun r h'=>I (rowsF (fw ws) n n 0) h'∨J h':=by
 refine callP (rfl:Tr.get AP 84=some A84) ?_
 generalize hQ:(fun (r:AVal) (h':AHeap)=>_)=Q
 obtain ⟨⟨lv,K⟩,gc,nc⟩:=hK _ _ h0
 simp -implicitDefEqProofs (disch:=first|exact dz _|fail) only [↓AM.R0,AM.R1,AM.R2,reduceAdd,reduceLeDiff,reduceEqDiff,reduceToNat,Nat.reduceLT,↓reduceIte,reduceEq,Int.reduceLT,reduceLE,gc]
 refine AM.loopI_of (fun k e h'=>∃ (a:Nat) (l:List (Nat×Nat)),n≤a+k∧a≤n+1∧e.val 0=.yld id∧e.val 1=.ptr c 0 0∧e.val 3=.int .i64 (a:Int)∧I l h'∧rowsF (fw ws) n n 0=l++rowsF (fw ws) n k a) n ?_ ?_
 ·refine ⟨0,[],by omega,by omega,?_,?_,?_,h0,rfl⟩<;>simp -implicitDefEqProofs (disch:=first|exact dz _|fail) only [↓AM.R0,AM.R1,AM.R2,reduceAdd,reduceLeDiff,reduceEqDiff,reduceToNat,Nat.reduceLT,↓reduceIte,reduceEq,Int.reduceLT,reduceLE]<;>rfl
 ·clear K gc nc lv h0
  rintro k e h' ⟨a,l,hk,hka,e0,e1,e3,hI,hR⟩
  obtain ⟨⟨lv,K⟩,gc,nc⟩:=hK _ _ hI
  have g1:=K.R.obj
  obtain ⟨b1,b2,b3,b4,b5,b6⟩:=K.R.basic
  simp -implicitDefEqProofs (disch:=first|exact dz _|fail) only [↓AM.R0,AM.R1,AM.R2,reduceAdd,reduceLeDiff,reduceEqDiff,reduceToNat,Nat.reduceLT,↓reduceIte,reduceEq,Int.reduceLT,reduceLE,e1,e3,gc,g1]
  refine AM.cI_bool (fun hb=>?_) (fun hb=>?_)
  ·simp only [decide_eq_true_eq] at hb
   obtain ⟨k,rfl⟩:∃ j,k=j+1:=⟨k-1,by omega⟩
   simp -implicitDefEqProofs (disch:=first|exact dz _|fail) only [↓AM.R0,AM.R1,AM.R2,reduceAdd,reduceLeDiff,reduceEqDiff,reduceToNat,Nat.reduceLT,↓reduceIte,reduceEq,Int.reduceLT,reduceLE]
   refine AM.loopI_of (fun k e h''=>∃ (m:Nat),k+m+a=n+1∧h''=h'∧e.val 0=.yld id∧e.val 1=.ptr c 0 0∧e.val 3=.int .i64 (a:Int)∧e.val 4=.int .i64 (m:Int)∧Row (fw ws) a m) (n+1-a) ?_ ?_
   ·refine ⟨0,by omega,rfl,?_,?_,?_,?_,fun t ht=>by omega⟩<;>simp -implicitDefEqProofs (disch:=first|exact dz _|fail) only [↓AM.R0,AM.R1,AM.R2,reduceAdd,reduceLeDiff,reduceEqDiff,reduceToNat,Nat.reduceLT,↓reduceIte,reduceEq,Int.reduceLT,reduceLE,e0,e1,e3]<;>rfl
   ·clear e0 e1 e3
    rintro k2 e h'' ⟨m,hm,hh,e0,e1,e3,e4,hrow⟩
    rw [hh]
    have hmn:a+m≤n:=by
     rcases Nat.lt_or_ge n (a+m) with q | q
     ·have:=hrow (m-1) (by omega)
      rw [K.out _ (by omega)] at this;cases this
     ·exact q
    have w1:IntKind.i64.wrap ((a:Int)+(m:Int))=((a+m:Nat):Int):=(wrap64 (by omega) (by omega)).trans (by omega)
    have w2:IntKind.i64.wrap ((m:Int)+1)=((m+1:Nat):Int):=(wrap64 (by omega) (by omega)).trans (by omega)
    simp -implicitDefEqProofs (disch:=first|exact dz _|fail) only [↓AM.R0,AM.R1,AM.R2,reduceAdd,reduceLeDiff,reduceEqDiff,reduceToNat,Nat.reduceLT,↓reduceIte,reduceEq,Int.reduceLT,reduceLE,e1,e3,e4,gc,w1]
    refine AM.callI_of (usedW K ((a+m:Nat):Int)) ?_
    rintro r h6 ⟨rfl,rfl⟩
    rw [fi_nat]
    simp -implicitDefEqProofs (disch:=first|exact dz _|fail) only [↓AM.R0,AM.R1,AM.R2,reduceAdd,reduceLeDiff,reduceEqDiff,reduceToNat,Nat.reduceLT,↓reduceIte,reduceEq,Int.reduceLT,reduceLE,Bool.not_not]
    refine AM.cI_bool (fun hc=>?_) (fun hc=>?_)
    ·have hlt:a+m<n:=by
      rcases Nat.lt_or_ge (a+m) n with q | q
      ·exact q
      ·rw [K.out _ q] at hc;cases hc
     simp -implicitDefEqProofs (disch:=first|exact dz _|fail) only [↓AM.R0,AM.R1,AM.R2,reduceAdd,reduceLeDiff,reduceEqDiff,reduceToNat,Nat.reduceLT,↓reduceIte,reduceEq,Int.reduceLT,reduceLE,e4,w2]
     refine ⟨k2-1,by omega,m+1,by omega,e0,e1,e3,rfl,hrow.join (q:=a+m) (j:=1) (fun t ht=>by rw [show a+m+t=a+m by omega];exact hc) rfl⟩
    ·have hcn:cntF (fw ws) (n-a) a=m:=cntF_eq _ _ _ hrow hc (by omega)
     rw [rowsF,if_pos (by omega),hcn] at hR
     simp -implicitDefEqProofs (disch:=first|exact dz _|fail) only [↓AM.R0,AM.R1,AM.R2,reduceAdd,reduceLeDiff,reduceEqDiff,reduceToNat,Nat.reduceLT,↓reduceIte,reduceEq,Int.reduceLT,reduceLE,e4]
     refine AM.gI_bool (fun hd=>?_) (fun hd=>?_)
     ·have hd':0<m:=by simp only [decide_eq_true_eq] at hd;omega
      rw [if_pos hd',List.cons_append,List.nil_append] at hR
      simp -implicitDefEqProofs (disch:=first|exact dz _|fail) only [↓AM.R0,AM.R1,AM.R2,reduceAdd,reduceLeDiff,reduceEqDiff,reduceToNat,Nat.reduceLT,↓reduceIte,reduceEq,Int.reduceLT,reduceLE,e0,e3,e4,hd]
      refine AM.yldI_of (hy l h6 a m _ hI hR) ?_
      rintro r h7 (⟨rfl,hI7⟩ | ⟨rfl,hJ⟩)
      ·have w3:IntKind.i64.wrap (((a+m:Nat):Int)+1)=((a+m+1:Nat):Int):=(wrap64 (by omega) (by omega)).trans (by omega)
       simp -implicitDefEqProofs (disch:=first|exact dz _|fail) only [↓AM.R0,AM.R1,AM.R2,reduceAdd,reduceLeDiff,reduceEqDiff,reduceToNat,Nat.reduceLT,↓reduceIte,reduceEq,Int.reduceLT,reduceLE,e3,e4,hd,w1,w3]
       exact ⟨k,by omega,a+m+1,l++[(a,m)],by omega,by omega,e0,e1,rfl,hI7,by rw [hR,List.append_assoc];rfl⟩
      ·simp -implicitDefEqProofs (disch:=first|exact dz _|fail) only [↓AM.R0,AM.R1,AM.R2,reduceAdd,reduceLeDiff,reduceEqDiff,reduceToNat,Nat.reduceLT,↓reduceIte,reduceEq,Int.reduceLT,reduceLE,hd]
       subst hQ
       exact .inr hJ
     ·have hd':¬ 0<m:=by simp only [decide_eq_false_iff_not] at hd;omega
      have w3:IntKind.i64.wrap (((a+m:Nat):Int)+1)=((a+m+1:Nat):Int):=(wrap64 (by omega) (by omega)).trans (by omega)
      rw [if_neg hd',List.nil_append] at hR
      simp -implicitDefEqProofs (disch:=first|exact dz _|fail) only [↓AM.R0,AM.R1,AM.R2,reduceAdd,reduceLeDiff,reduceEqDiff,reduceToNat,Nat.reduceLT,↓reduceIte,reduceEq,Int.reduceLT,reduceLE,e3,e4,hd,w1,w3]
      exact ⟨k,by omega,a+m+1,l,by omega,by omega,e0,e1,rfl,hI,hR⟩
  ·simp only [decide_eq_false_iff_not] at hb
   have hz:rowsF (fw ws) n k a=[]:=by
    cases k with
    | zero=>rfl
    | succ k=>rw [rowsF,if_neg (by omega)]
   simp -implicitDefEqProofs (disch:=first|exact dz _|fail) only [↓AM.R0,AM.R1,AM.R2,reduceAdd,reduceLeDiff,reduceEqDiff,reduceToNat,Nat.reduceLT,↓reduceIte,reduceEq,Int.reduceLT,reduceLE]
   subst hQ
   rw [hz,List.append_nil] at hR
   exact .inl (hR ▸ hI)
def sumR (l:List (Nat×Nat)):Nat:=(l.map (·.2)).sum
theorem sumR_app (l:List (Nat×Nat)) (a k:Nat):sumR (l++[(a,k)])=sumR l+k:=by simp [sumR]
theorem sumR_rest (l t:List (Nat×Nat)) (a k:Nat):sumR l+k≤sumR (l++(a,k)::t):=by simp [sumR]
theorem sum_rowsF {f:Nat→Bool} {n:Nat} (ho:∀ q,n≤q→f q=false):∀ k p,sumR (rowsF f n k p)≤n-p
 | 0,p=>by simp [rowsF,sumR]
 | k+1,p=>by
  rw [rowsF]
  split
  ·rename_i hp
   have ih:=sum_rowsF ho k (p+cntF f (n-p) p+1)
   have hc:∀ j p,cntF f j p≤j:=fun j=>by
    induction j with
    | zero=>intro p;exact Nat.le_refl _
    | succ j ih =>
     intro p
     rw [cntF]
     split
     ·have:=ih (p+1);omega
     ·omega
   have hc:=hc (n-p) p
   split
   ·simp only [List.cons_append,List.nil_append]
    have:sumR ((p,cntF f (n-p) p)::rowsF f n k (p+cntF f (n-p) p+1))=cntF f (n-p) p+sumR (rowsF f n k (p+cntF f (n-p) p+1)):=by simp [sumR]
    rw [this];omega
   ·rw [List.nil_append];omega
  ·simp [sumR]
theorem PgV.topS {h:AHeap} {p:PI} {n:Nat} {ws:List Nat} {lv:List (List Sm)} (K:PgV h p n ws lv):∃ x it,IsSum (fw ws) 0 (64*ws.length) x∧lv[lv.length-1]?=some [x]∧p.ids[lv.length-1]?=some it:=by
 have hne:=K.ne
 obtain ⟨lt,hlt⟩:∃ l,lv[lv.length-1]?=some l:=⟨_,List.getElem?_eq_getElem (by omega)⟩
 obtain ⟨it,hit⟩:∃ l,p.ids[lv.length-1]?=some l:=⟨_,List.getElem?_eq_getElem (by have:=K.R.len;omega)⟩
 have ltl:lt.length=1:=(K.S _ _ hlt).trans K.top
 obtain ⟨x,rfl⟩:∃ x,lt=[x]:=List.length_eq_one_iff.1 ltl
 have VT:=K.V _ _ 0 x hlt rfl
 unfold Val at VT
 have hge:=cl_ge ws.length (lv.length-1)
 rw [K.top,Nat.mul_one] at hge
 rw [Nat.mul_zero,Nat.zero_min,Nat.zero_add,Nat.mul_one,Nat.min_eq_right (by omega)] at VT
 exact ⟨x,it,VT,hlt,hit⟩
theorem runsW {h:AHeap} {p:PI}:CallP AP 61 [.ptr p.id 0 0] h fun r h'=>h'=h.push (.cells 0 false [.ptr p.id 0 0])∧r=.fn (.func 84) [] [.ptr h.n 0 0]:=by
 refine callP (rfl:Tr.get AP 61=some A61) ?_
 generalize hQ:(fun (r:AVal) (h':AHeap)=>_)=Q
 simp -implicitDefEqProofs (disch:=first|exact dz _|fail) only [↓AM.R0,AM.R1,AM.R2,reduceAdd,reduceLeDiff,reduceEqDiff,reduceToNat,Nat.reduceLT,↓reduceIte,reduceEq,Int.reduceLT,reduceLE]
 subst hQ
 exact ⟨rfl,rfl⟩
set_option maxHeartbeats 4000000 in
theorem countsW {h:AHeap} {p:PI} {n:Nat} {ws:List Nat} {lv:List (List Sm)} (K:PgV h p n ws lv):CallP AP 21 [.ptr p.id 0 0] h fun r h'=>HFrame h h' [] []∧∃ x,IsSum (fw ws) 0 (64*ws.length) x ∧
  r=.tup [.int .i64 (sumR (rowsF (fw ws) n n 0):Nat),.int .i64 (x.m:Int)]:=by
 refine callP (rfl:Tr.get AP 21=some A21) ?_
 generalize hQ:(fun (r:AVal) (h':AHeap)=>_)=Q
 have hn2:=K.n2
 obtain ⟨b1,b2,b3,b4,b5,b6⟩:=K.R.basic
 simp -implicitDefEqProofs (disch:=first|exact dz _|fail) only [↓AM.R0,AM.R1,AM.R2,reduceAdd,reduceLeDiff,reduceEqDiff,reduceToNat,Nat.reduceLT,↓reduceIte,reduceEq,Int.reduceLT,reduceLE]
 refine AM.callI_of runsW ?_
 rintro r h1 ⟨hh,rfl⟩
 simp -implicitDefEqProofs (disch:=first|exact dz _|fail) only [↓AM.R0,AM.R1,AM.R2,reduceAdd,reduceLeDiff,reduceEqDiff,reduceToNat,Nat.reduceLT,↓reduceIte,reduceEq,Int.reduceLT,reduceLE]
 generalize hE:Tr.set _ 10 (AVal.fn (Fn.func 84) [] [AVal.ptr (h.n+1) 0 0])=e
 have e0:Env.val e 0=AVal.ptr p.id 0 0:=by rw [←hE];simp -implicitDefEqProofs (disch:=first|exact dz _|fail) only [↓AM.R0,AM.R1,AM.R2,reduceAdd,reduceLeDiff,reduceEqDiff,reduceToNat,Nat.reduceLT,↓reduceIte,reduceEq,Int.reduceLT,reduceLE]
 have e4:Env.val e 4=AVal.ptr h.n 0 0:=by rw [←hE];simp -implicitDefEqProofs (disch:=first|exact dz _|fail) only [↓AM.R0,AM.R1,AM.R2,reduceAdd,reduceLeDiff,reduceEqDiff,reduceToNat,Nat.reduceLT,↓reduceIte,reduceEq,Int.reduceLT,reduceLE]
 clear hE
 have f1:HFrame h h1 [] []:=by rw [hh];exact (((HFrame.refl (h:=h) (F:=[]) (by simp)).pushTmp _).setTmp (Nat.le_refl _) _).pushTmp _
 have n1:h1.n=h.n+2:=by rw [hh];simp
 have g1:h1.get h.n=.cells 0 false [.int .i64 0]:=by rw [hh,AHeap.get_push_ne _ _ (by simp),AHeap.get_set_same]
 have g2:h1.get (h.n+1)=.cells 0 false [.ptr p.id 0 0]:=by
  have:((h.push (.cells 0 false [.int .i64 0])).set h.n (.cells 0 false [.int .i64 0])).n=h.n+1:=by simp
  rw [hh,←this,AHeap.get_push_same]
 clear hh
 rw [n1]
 generalize hLo:AObj.loop 0 none e [11,12] _ _=lo
 refine AM.rangeC_of (genW (p:=p) (n:=n) (ws:=ws) hn2 (fun l h'=>HFrame h h' [] []∧h.n+3≤h'.n∧h'.get h.n=.cells 0 false [.int .i64 (sumR l:Nat)]∧h'.get (h.n+1)=.cells 0 false [.ptr p.id 0 0] ∧
  h'.get (h.n+2)=lo) (fun _=>False) ?_ ?_ ?_) ?_
 ·exact fun l h' H=>⟨⟨lv,K.keep H.1⟩,H.2.2.2.1,by have:=H.2.1;omega⟩
 ·rintro l h' a k t ⟨f3,n3,q1,q2,q3⟩ hr
  have hsum:sumR l+k≤4096:=by
   have z1:=sumR_rest l t a k
   rw [←hr] at z1
   have z2:=sum_rowsF K.out n 0
   omega
  have w1:IntKind.i64.wrap (((sumR l:Nat):Int)+(k:Int))=((sumR l+k:Nat):Int):=(wrap64 (by omega) (by omega)).trans (by omega)
  rw [←hLo] at q3
  refine AM.yldP q3 rfl ?_
  simp only [AM.putAll]
  simp -implicitDefEqProofs (disch:=first|exact dz _|fail) only [↓AM.R0,AM.R1,AM.R2,reduceAdd,reduceLeDiff,reduceEqDiff,reduceToNat,Nat.reduceLT,↓reduceIte,reduceEq,Int.reduceLT,reduceLE]
  refine AM.asgQ_of q3 ?_
  simp -implicitDefEqProofs (disch:=first|exact dz _|fail) only [↓AM.R0,AM.R1,AM.R2,reduceAdd,reduceLeDiff,reduceEqDiff,reduceToNat,Nat.reduceLT,↓reduceIte,reduceEq,Int.reduceLT,reduceLE,e4,q1,w1]
  refine AM.roundQ_of (st:=1) (p2:=none) (e2:=e) (by rw [AHeap.get_set_ne _ _ (by omega),AHeap.get_set_same]) ?_
  refine .inl ⟨rfl,((f3.setTmp (by omega) _).setTmp (Nat.le_refl _) _).setTmp (by omega) _,by simpa using n3,?_,?_,?_⟩
  ·rw [AHeap.get_set_ne _ _ (by omega),AHeap.get_set_same,sumR_app]
  ·rw [AHeap.get_set_ne _ _ (by omega),AHeap.get_set_ne _ _ (by omega),AHeap.get_set_ne _ _ (by omega),q2]
  ·rw [AHeap.get_set_same,←hLo];rfl
 ·refine ⟨f1.pushTmp _,by simp [n1],?_,?_,?_⟩
  ·rw [AHeap.get_push_ne _ _ (by omega),g1];rfl
  ·rw [AHeap.get_push_ne _ _ (by omega),g2]
  ·rw [←n1,AHeap.get_push_same]
 ·rintro r h' (⟨f3,n3,q1,q2,q3⟩ | q)
  ·rw [←hLo] at q3
   refine AM.rangeQ_of q3 (by decide) ?_
   simp only [AM.pendX]
   have f4:=f3.setTmp (i:=h.n+2) (by omega) (.loop 3 none e [11,12] (ACode.region [⟨some 6,.op (.mov (.tmp 12)),none⟩]) (ACode.block 1 (ACode.region [⟨some 13,.op (.load none (.tmp 4)),none⟩,⟨some 14,.op (.mov (.tmp 6)),none⟩,⟨some 15,.op (.bin .add (.tmp 13) (.tmp 14)),none⟩,⟨none,.op (.store 1 (.tmp 4) (.tmp 15)),none⟩])))
   have q4:(h'.set (h.n+2) (.loop 3 none e [11,12] (ACode.region [⟨some 6,.op (.mov (.tmp 12)),none⟩]) (ACode.block 1 (ACode.region [⟨some 13,.op (.load none (.tmp 4)),none⟩,⟨some 14,.op (.mov (.tmp 6)),none⟩,⟨some 15,.op (.bin .add (.tmp 13) (.tmp 14)),none⟩,⟨none,.op (.store 1 (.tmp 4) (.tmp 15)),none⟩])))).get h.n=.cells 0 false [.int .i64 (sumR (rowsF (fw ws) n n 0):Nat)]:=by
    rw [AHeap.get_set_ne _ _ (by omega),q1]
   generalize hS:h'.set (h.n+2) _=h4 at f4 q4 ⊢
   have K4:=K.keep f4
   obtain ⟨x,it,V,hlt,hit⟩:=K4.topS
   have gt:=K4.R.lvl _ _ _ hlt hit
   have st:=svals_at hlt hit
   have g1:=K4.R.obj
   have g3:=K4.R.sums
   have hne:=K.ne
   have hle:=K.le
   obtain ⟨b1,b2,b3,b4,b5,b6⟩:=K4.R.basic
   obtain ⟨c1,c2,c3,c4,c5⟩:=K4.R.mem hit
   have w1:IntKind.i64.wrap ((lv.length:Int)-1)=((lv.length-1:Nat):Int):=(wrap64 (by omega) (by omega)).trans (by omega)
   have x1:=ix1 g3 (len:=lv.length) (i:=lv.length-1) (by omega)
   have x4:ixV h4 4 (.sl it 0 0 1 4) (.int .i64 0)=some (.ptr it 0 0,h4):=ix4 gt (len:=1) (i:=0) (by omega)
   simp only [List.flatMap_cons,List.flatMap_nil,List.append_nil,encS] at gt
   simp only [List.length_cons,List.length_nil,Nat.zero_add] at st
   have hn4:h.n<h4.n:=by rw [←hS];simp;omega
   simp -implicitDefEqProofs (disch:=first|exact dz _|fail) only [↓AM.R0,AM.R1,AM.R2,reduceAdd,reduceLeDiff,reduceEqDiff,reduceToNat,Nat.reduceLT,↓reduceIte,reduceEq,Int.reduceLT,reduceLE,e0,e4,q4,g1,g3,gt,st,w1,x1,x4]
   subst hQ
   exact ⟨f4,x,V,rfl⟩
  ·exact q.elim
end Go.Proofs.YthillgheddpmhaaDoor.Pg
namespace Go.Proofs.YthillgheddpmhaaDoor.Pg
open Go Go.AM Go.Proofs.YthillgheddpmhaaDoor.AmGJ
open Nat (reduceAdd reduceLeDiff reduceEqDiff)
open Int (reduceToNat reduceEq reduceLE)
def ub (f:Nat→Bool) (n:Nat):List AVal:=(List.range n).map fun q=>.bool (!f q)
theorem ub_len (f:Nat→Bool) (n:Nat):(ub f n).length=n:=by simp [ub]
theorem ub_at {f:Nat→Bool} {n q:Nat} (h:q<n):(ub f n)[q]?=some (.bool (!f q)):=by rw [ub,List.getElem?_map,List.getElem?_range h];rfl
theorem ub_set {f g:Nat→Bool} {n q:Nat} {u:Bool} (h:q<n) (hg:∀ x,g x=if x=q then !u else f x):(ub f n).take q++[.bool u]++(ub f n).drop (q+1)=ub g n:=by
 have e:(ub f n).take q++[.bool u]++(ub f n).drop (q+1)=(ub f n).set q (.bool u):=by
  rw [List.set_eq_take_append_cons_drop,if_pos (by rw [ub_len];exact h),List.append_assoc];rfl
 rw [e]
 apply List.ext_getElem?
 intro i
 rcases Nat.lt_or_ge i n with c | c
 ·rw [ub_at c,hg]
  by_cases ei:q=i
  ·subst ei;rw [List.getElem?_set_self (by rw [ub_len];exact h),if_pos rfl,Bool.not_not]
  ·rw [List.getElem?_set_ne ei,ub_at c,if_neg (Ne.symm ei)]
 ·rw [List.getElem?_eq_none (by rw [List.length_set,ub_len];exact c),List.getElem?_eq_none (by rw [ub_len];exact c)]
structure RefR (h:AHeap) (r b n:Nat) (f:Nat→Bool):Prop where
 obj:h.get r=.cells 0 false [.sl b 0 0 n 1]
 bits:h.get b=.cells 0 false (ub f n)
 ne:r≠b
 lr:r<h.n
 lb:b<h.n
 n2:n≤4096
 out:∀ q,n≤q→f q=false
theorem RefR.keepD {h h':AHeap} {A A':List Nat} {r b n:Nat} {f:Nat→Bool} (R:RefR h r b n f) (F:HFrame h h' A A') (hr:r ∉ A) (hb:b ∉ A):RefR h' r b n f :=
 ⟨(F.get r R.lr hr).trans R.obj,(F.get b R.lb hb).trans R.bits,R.ne,Nat.lt_of_lt_of_le R.lr F.n,Nat.lt_of_lt_of_le R.lb F.n,R.n2,R.out⟩
theorem RefR.set {h:AHeap} {r b n:Nat} {f g:Nat→Bool} (R:RefR h r b n f) (ho:∀ q,n≤q→g q=false):RefR (h.set b (.cells 0 false (ub g n))) r b n g :=
 ⟨(AHeap.get_set_ne _ _ R.ne).trans R.obj,AHeap.get_set_same _ _ _,R.ne,by simpa using R.lr,by simpa using R.lb,R.n2,ho⟩
theorem ms0 {h:AHeap} {k:Nat} (hk:k≤1000000):msV h 1 1 [.bool false] (.int .i64 (k:Int))=some (.sl h.n 0 0 k 1,h.push (.cells 0 false (ub (fun q=>decide (q<k)) k))):=by
 unfold msV
 simp only [Int.toNat_natCast]
 rw [if_pos ⟨by omega,by omega,by omega⟩]
 have:(List.range (k*1)).map (fun i=>[AVal.bool false].getD (i%1) .undef)=ub (fun q=>decide (q<k)) k:=by
  rw [Nat.mul_one,ub]
  apply List.map_congr_left
  intro q hq
  rw [List.mem_range] at hq
  simp [Nat.mod_one,hq]
 rw [this]
set_option maxHeartbeats 2000000 in
theorem rNew {h:AHeap} (n:Int):CallP AP 22 [.int .i64 n] h fun v h'=>(¬ (1≤n∧n≤4096)∧HFrame h h' [] []∧v=.tup [.nilp,.int .i64 1]) ∨
  (1≤n∧n≤4096∧∃ r b,HFrame h h' [] [r,b]∧RefR h' r b n.toNat (fun q=>decide (q<n.toNat))∧v=.tup [.ptr r 0 0,.int .i64 0]):=by
 refine callP (rfl:Tr.get AP 22=some A22) ?_
 generalize hQ:(fun (r:AVal) (h':AHeap)=>_)=Q
 rcases Int.lt_or_le n 1 with c | c
 ·have d1:decide (n<1)=true:=decide_eq_true c
  simp -implicitDefEqProofs (disch:=first|exact dz _|fail) only [↓AM.R0,AM.R1,AM.R2,reduceAdd,reduceLeDiff,reduceEqDiff,reduceToNat,Nat.reduceLT,↓reduceIte,reduceEq,Int.reduceLT,reduceLE,d1]
  subst hQ
  exact .inl ⟨by omega,HFrame.refl (by simp),rfl⟩
 have d1:decide (n<1)=false:=decide_eq_false (by omega)
 rcases Int.lt_or_le 4096 n with c2 | c2
 ·have d2:decide (4096<n)=true:=decide_eq_true c2
  simp -implicitDefEqProofs (disch:=first|exact dz _|fail) only [↓AM.R0,AM.R1,AM.R2,reduceAdd,reduceLeDiff,reduceEqDiff,reduceToNat,Nat.reduceLT,↓reduceIte,reduceEq,Int.reduceLT,reduceLE,d1,d2]
  subst hQ
  exact .inl ⟨by omega,HFrame.refl (by simp),rfl⟩
 have d2:decide (4096<n)=false:=decide_eq_false (by omega)
 obtain ⟨n,rfl⟩:∃ a:Nat,n=a:=⟨n.toNat,by omega⟩
 have ms:=ms0 (h:=h) (k:=n) (by omega)
 simp -implicitDefEqProofs (disch:=first|exact dz _|fail) only [↓AM.R0,AM.R1,AM.R2,reduceAdd,reduceLeDiff,reduceEqDiff,reduceToNat,Nat.reduceLT,↓reduceIte,reduceEq,Int.reduceLT,reduceLE,d1,d2,ms]
 subst hQ
 refine .inr ⟨by omega,by omega,h.n+1,h.n,?_,⟨?_,?_,by omega,by simp,by simp;omega,by omega,fun q hq=>by rw [Int.toNat_natCast] at hq;exact decide_eq_false (by rw [Int.toNat_natCast];omega)⟩,rfl⟩
 ·have f:=((HFrame.refl (h:=h) (F:=[]) (by simp)).pushTmp (.cells 0 false (ub (fun q=>decide (q<n)) n))).pushTmp (.cells 0 false [.sl h.n 0 0 n 1])
  exact ⟨f.n,f.g,f.get,fun j hj=>.inr (by simp at hj;omega),fun j hj=>by simp at hj;simp;omega⟩
 ·rw [Int.toNat_natCast];exact AHeap.get_push_same _ _
 ·rw [Int.toNat_natCast,AHeap.get_push_ne _ _ (by simp),AHeap.get_push_same]
set_option maxHeartbeats 2000000 in
theorem rRun {h:AHeap} {r b n:Nat} {f:Nat→Bool} (R:RefR h r b n f) {a:Nat} (ha:a≤n):CallP AP 62 [.ptr r 0 0,.int .i64 (a:Int)] h fun v h'=>h'=h∧v=.int .i64 (cntF f (n-a) a:Nat):=by
 refine callP (rfl:Tr.get AP 62=some A62) ?_
 generalize hQ:(fun (r:AVal) (h':AHeap)=>_)=Q
 have g1:=R.obj
 have g2:=R.bits
 have hn:=R.n2
 have lr:=R.lr
 have lb:=R.lb
 simp -implicitDefEqProofs (disch:=first|exact dz _|fail) only [↓AM.R0,AM.R1,AM.R2,reduceAdd,reduceLeDiff,reduceEqDiff,reduceToNat,Nat.reduceLT,↓reduceIte,reduceEq,Int.reduceLT,reduceLE]
 refine AM.loopI_of (fun k e h'=>∃ m:Nat,k+(a+m)=n∧h'=h∧e.val 0=.ptr r 0 0∧e.val 1=.int .i64 (a:Int)∧e.val 5=.int .i64 (m:Int)∧Row f a m) (n-a) ?_ ?_
 ·refine ⟨0,by omega,rfl,?_,?_,?_,fun t ht=>by omega⟩<;>simp -implicitDefEqProofs (disch:=first|exact dz _|fail) only [↓AM.R0,AM.R1,AM.R2,reduceAdd,reduceLeDiff,reduceEqDiff,reduceToNat,Nat.reduceLT,↓reduceIte,reduceEq,Int.reduceLT,reduceLE]<;>rfl
 ·rintro k e h' ⟨m,hk,hh,e0,e1,e5,hrow⟩
  rw [hh]
  have w1:IntKind.i64.wrap ((a:Int)+(m:Int))=((a+m:Nat):Int):=(wrap64 (by omega) (by omega)).trans (by omega)
  have w2:IntKind.i64.wrap ((m:Int)+1)=((m+1:Nat):Int):=(wrap64 (by omega) (by omega)).trans (by omega)
  have fin:(n≤a+m∨f (a+m)=false)→cntF f (n-a) a=m:=fun hq=>cntF_eq _ _ _ hrow (by
   rcases hq with q | q
   ·exact R.out _ q
   ·exact q) (by omega)
  simp -implicitDefEqProofs (disch:=first|exact dz _|fail) only [↓AM.R0,AM.R1,AM.R2,reduceAdd,reduceLeDiff,reduceEqDiff,reduceToNat,Nat.reduceLT,↓reduceIte,reduceEq,Int.reduceLT,reduceLE,e0,e1,e5,g1,w1]
  refine AM.gI_bool (fun hb=>?_) (fun hb=>?_)
  ·have hlt:a+m<n:=by simp only [decide_eq_true_eq] at hb;omega
   have x1:=ix1 g2 (len:=n) hlt
   have x2:=ub_at (f:=f) hlt
   simp -implicitDefEqProofs (disch:=first|exact dz _|fail) only [↓AM.R0,AM.R1,AM.R2,reduceAdd,reduceLeDiff,reduceEqDiff,reduceToNat,Nat.reduceLT,↓reduceIte,reduceEq,Int.reduceLT,reduceLE,e0,e1,e5,g1,g2,w1,hb,x1,x2]
   rw [Bool.not_not]
   refine AM.cI_bool (fun hc=>?_) (fun hc=>?_)
   ·simp -implicitDefEqProofs (disch:=first|exact dz _|fail) only [↓AM.R0,AM.R1,AM.R2,reduceAdd,reduceLeDiff,reduceEqDiff,reduceToNat,Nat.reduceLT,↓reduceIte,reduceEq,Int.reduceLT,reduceLE,e5,w2]
    exact ⟨k-1,by omega,m+1,by omega,e0,e1,rfl,hrow.join (q:=a+m) (j:=1) (fun t ht=>by rw [show a+m+t=a+m by omega];exact hc) rfl⟩
   ·simp -implicitDefEqProofs (disch:=first|exact dz _|fail) only [↓AM.R0,AM.R1,AM.R2,reduceAdd,reduceLeDiff,reduceEqDiff,reduceToNat,Nat.reduceLT,↓reduceIte,reduceEq,Int.reduceLT,reduceLE,e5]
    subst hQ
    exact ⟨rfl,by rw [fin (.inr hc)]⟩
  ·have hlt:n≤a+m:=by simp only [decide_eq_false_iff_not] at hb;omega
   simp -implicitDefEqProofs (disch:=first|exact dz _|fail) only [↓AM.R0,AM.R1,AM.R2,reduceAdd,reduceLeDiff,reduceEqDiff,reduceToNat,Nat.reduceLT,↓reduceIte,reduceEq,Int.reduceLT,reduceLE,e5,hb]
   subst hQ
   exact ⟨rfl,by rw [fin (.inl hlt)]⟩
set_option maxHeartbeats 2000000 in
theorem rSet {h:AHeap} {r b n:Nat} {f:Nat→Bool} (R:RefR h r b n f) {a m:Nat} (ha:a+m≤n) (u:Bool):CallP AP 63 [.ptr r 0 0,.int .i64 (a:Int),.int .i64 (m:Int),.bool u] h fun v h'=>HFrame h h' [b] [b]∧RefR h' r b n (fun q=>if a≤q∧q<a+m then !u else f q)∧v=.tup []:=by
 refine callP (rfl:Tr.get AP 63=some A63) ?_
 generalize hQ:(fun (r:AVal) (h':AHeap)=>_)=Q
 have hn:=R.n2
 simp -implicitDefEqProofs (disch:=first|exact dz _|fail) only [↓AM.R0,AM.R1,AM.R2,reduceAdd,reduceLeDiff,reduceEqDiff,reduceToNat,Nat.reduceLT,↓reduceIte,reduceEq,Int.reduceLT,reduceLE]
 refine AM.loopI_of (fun k e h'=>∃ x:Nat,k+x=a+m∧a≤x∧e.val 0=.ptr r 0 0∧e.val 1=.int .i64 (a:Int)∧e.val 2=.int .i64 (m:Int)∧e.val 3=.bool u∧e.val 8=.int .i64 (x:Int)∧HFrame h h' [b] [b]∧RefR h' r b n (fun q=>if a≤q∧q<x then !u else f q)) m ?_ ?_
 ·refine ⟨a,by omega,by omega,?_,?_,?_,?_,?_,HFrame.refl (by simpa using R.lb),?_⟩
  ·simp -implicitDefEqProofs (disch:=first|exact dz _|fail) only [↓AM.R0,AM.R1,AM.R2,reduceAdd,reduceLeDiff,reduceEqDiff,reduceToNat,Nat.reduceLT,↓reduceIte,reduceEq,Int.reduceLT,reduceLE]
  ·simp -implicitDefEqProofs (disch:=first|exact dz _|fail) only [↓AM.R0,AM.R1,AM.R2,reduceAdd,reduceLeDiff,reduceEqDiff,reduceToNat,Nat.reduceLT,↓reduceIte,reduceEq,Int.reduceLT,reduceLE]
  ·simp -implicitDefEqProofs (disch:=first|exact dz _|fail) only [↓AM.R0,AM.R1,AM.R2,reduceAdd,reduceLeDiff,reduceEqDiff,reduceToNat,Nat.reduceLT,↓reduceIte,reduceEq,Int.reduceLT,reduceLE]
  ·simp -implicitDefEqProofs (disch:=first|exact dz _|fail) only [↓AM.R0,AM.R1,AM.R2,reduceAdd,reduceLeDiff,reduceEqDiff,reduceToNat,Nat.reduceLT,↓reduceIte,reduceEq,Int.reduceLT,reduceLE]
  ·simp -implicitDefEqProofs (disch:=first|exact dz _|fail) only [↓AM.R0,AM.R1,AM.R2,reduceAdd,reduceLeDiff,reduceEqDiff,reduceToNat,Nat.reduceLT,↓reduceIte,reduceEq,Int.reduceLT,reduceLE]
  ·have:(fun q=>if a≤q∧q<a then !u else f q)=f:=by funext q;rw [if_neg (by omega)]
   rw [this];exact R
 ·clear R
  rintro k e h' ⟨x,hk,hax,e0,e1,e2,e3,e8,F,R⟩
  have g1:=R.obj
  have g2:=R.bits
  have lr:=R.lr
  have lb:=R.lb
  have w1:IntKind.i64.wrap ((a:Int)+(m:Int))=((a+m:Nat):Int):=(wrap64 (by omega) (by omega)).trans (by omega)
  simp -implicitDefEqProofs (disch:=first|exact dz _|fail) only [↓AM.R0,AM.R1,AM.R2,reduceAdd,reduceLeDiff,reduceEqDiff,reduceToNat,Nat.reduceLT,↓reduceIte,reduceEq,Int.reduceLT,reduceLE,e1,e2,e8,w1]
  refine AM.cI_bool (fun hc=>?_) (fun hc=>?_)
  ·simp only [decide_eq_true_eq] at hc
   have x1:=ix1 g2 (len:=n) (i:=x) (by omega)
   have w2:IntKind.i64.wrap ((x:Int)+1)=((x+1:Nat):Int):=(wrap64 (by omega) (by omega)).trans (by omega)
   have hlen:x+1≤(ub (fun q=>if a≤q∧q<x then !u else f q) n).length:=by rw [ub_len];omega
   have us:=ub_set (f:=fun q=>if a≤q∧q<x then !u else f q) (g:=fun q=>if a≤q∧q<x+1 then !u else f q) (n:=n) (q:=x) (u:=u) (by omega) (fun y=>by
    by_cases e:y=x
    ·subst e;rw [if_pos (by omega),if_pos rfl]
    ·rw [if_neg e]
     by_cases e2:a≤y∧y<x
     ·rw [if_pos e2,if_pos (by omega)]
     ·rw [if_neg e2,if_neg (by omega)])
   have f2:=HFrame.set h' b (.cells 0 false (ub (fun q=>if a≤q∧q<x+1 then !u else f q) n)) (F:=[b]) (by simp) (by simpa using lb)
   have R2:=R.set (g:=fun q=>if a≤q∧q<x+1 then !u else f q) (fun q hq=>by
    show (if a≤q∧q<x+1 then !u else f q)=false
    have:=R.out q hq
    rw [if_neg (by omega)] at this ⊢
    exact this)
   simp -implicitDefEqProofs (disch:=first|exact dz _|fail) only [↓AM.R0,AM.R1,AM.R2,reduceAdd,reduceLeDiff,reduceEqDiff,reduceToNat,Nat.reduceLT,↓reduceIte,reduceEq,Int.reduceLT,reduceLE,e0,e3,e8,g1,g2,x1,hlen,us,w2]
   exact ⟨k-1,by omega,x+1,by omega,by omega,e1,e2,rfl,F.trans f2,R2⟩
  ·simp only [decide_eq_false_iff_not] at hc
   obtain rfl:x=a+m:=by omega
   simp -implicitDefEqProofs (disch:=first|exact dz _|fail) only [↓AM.R0,AM.R1,AM.R2,reduceAdd,reduceLeDiff,reduceEqDiff,reduceToNat,Nat.reduceLT,↓reduceIte,reduceEq,Int.reduceLT,reduceLE]
   subst hQ
   exact ⟨F,R,rfl⟩
def TurnF (n:Nat) (f g:Nat→Bool) (b m:Int) (u:Bool) (r:AVal):Prop :=
 (inB n b m=true∧(∀ q:Nat,b≤q→(q:Int)<b+m→f q=u)∧(∀ q:Nat,g q=if b≤q∧(q:Int)<b+m then !u else f q)∧r=.int .i64 0) ∨
 (inB n b m=true∧(∃ q:Nat,b≤q∧(q:Int)<b+m∧f q=!u)∧g=f∧r=.int .i64 5)∨(inB n b m=false∧g=f∧r=.int .i64 1)
theorem TurnR.toF {n:Nat} {ws ws':List Nat} {b m:Int} {u:Bool} {r:AVal} (h:TurnR n ws ws' b m u r):TurnF n (fw ws) (fw ws') b m u r:=by
 rcases h with ⟨a,c,d,e⟩ | ⟨a,c,d,e⟩ | ⟨a,d,e⟩
 ·exact .inl ⟨a,c,d,e⟩
 ·exact .inr (.inl ⟨a,c,by rw [d],e⟩)
 ·exact .inr (.inr ⟨a,by rw [d],e⟩)
set_option maxHeartbeats 4000000 in
theorem rTurn {h:AHeap} {r b n:Nat} {f:Nat→Bool} (R:RefR h r b n f) (a m:Int) (u:Bool):CallP AP 24 [.ptr r 0 0,.int .i64 a,.int .i64 m,.bool u] h fun v h'=>∃ g,HFrame h h' [b] [b]∧RefR h' r b n g∧TurnF n f g a m u v:=by
 refine callP (rfl:Tr.get AP 24=some A24) ?_
 generalize hQ:(fun (r:AVal) (h':AHeap)=>_)=Q
 have g1:=R.obj
 have g2:=R.bits
 have lr:=R.lr
 have lb:=R.lb
 have hn:=R.n2
 have bad:inB n a m=false→Q (.int .i64 1) h:=fun hi=>by
  subst hQ
  exact ⟨f,HFrame.refl (by simpa using lb),R,.inr (.inr ⟨hi,rfl,rfl⟩)⟩
 have go:inB n a m=true∨inB n a m=false:=by cases inB n a m<;>simp
 rcases Int.lt_or_le a 0 with c | c
 ·have d1:decide (a<0)=true:=decide_eq_true c
  simp -implicitDefEqProofs (disch:=first|exact dz _|fail) only [↓AM.R0,AM.R1,AM.R2,reduceAdd,reduceLeDiff,reduceEqDiff,reduceToNat,Nat.reduceLT,↓reduceIte,reduceEq,Int.reduceLT,reduceLE,d1]
  exact bad (by rw [←Bool.not_eq_true,inB_true];omega)
 have d1:decide (a<0)=false:=decide_eq_false (by omega)
 rcases Int.lt_or_le m 1 with e | e
 ·have d2:decide (m<1)=true:=decide_eq_true e
  simp -implicitDefEqProofs (disch:=first|exact dz _|fail) only [↓AM.R0,AM.R1,AM.R2,reduceAdd,reduceLeDiff,reduceEqDiff,reduceToNat,Nat.reduceLT,↓reduceIte,reduceEq,Int.reduceLT,reduceLE,d1,d2]
  exact bad (by rw [←Bool.not_eq_true,inB_true];omega)
 have d2:decide (m<1)=false:=decide_eq_false (by omega)
 rcases Int.lt_or_le a n with q | q
 rotate_left
 ·have d3:decide ((n:Int)≤a)=true:=decide_eq_true q
  simp -implicitDefEqProofs (disch:=first|exact dz _|fail) only [↓AM.R0,AM.R1,AM.R2,reduceAdd,reduceLeDiff,reduceEqDiff,reduceToNat,Nat.reduceLT,↓reduceIte,reduceEq,Int.reduceLT,reduceLE,d1,d2,d3,g1]
  exact bad (by rw [←Bool.not_eq_true,inB_true];omega)
 have d3:decide ((n:Int)≤a)=false:=decide_eq_false (by omega)
 have w1:IntKind.i64.wrap ((n:Int)-a)=(n:Int)-a:=wrap64 (by omega) (by omega)
 rcases Int.lt_or_le ((n:Int)-a) m with q2 | q2
 ·have d4:decide ((n:Int)-a<m)=true:=decide_eq_true q2
  simp -implicitDefEqProofs (disch:=first|exact dz _|fail) only [↓AM.R0,AM.R1,AM.R2,reduceAdd,reduceLeDiff,reduceEqDiff,reduceToNat,Nat.reduceLT,↓reduceIte,reduceEq,Int.reduceLT,reduceLE,d1,d2,d3,d4,g1,w1]
  exact bad (by rw [←Bool.not_eq_true,inB_true];omega)
 have d4:decide ((n:Int)-a<m)=false:=decide_eq_false (by omega)
 have hin:inB n a m=true:=inB_true.2 ⟨by omega,by omega,by omega⟩
 clear bad go
 obtain ⟨a,rfl⟩:∃ x:Nat,a=x:=⟨a.toNat,by omega⟩
 obtain ⟨m,rfl⟩:∃ x:Nat,m=x:=⟨m.toNat,by omega⟩
 have w2:IntKind.i64.wrap ((a:Int)+(m:Int))=((a+m:Nat):Int):=(wrap64 (by omega) (by omega)).trans (by omega)
 simp -implicitDefEqProofs (disch:=first|exact dz _|fail) only [↓AM.R0,AM.R1,AM.R2,reduceAdd,reduceLeDiff,reduceEqDiff,reduceToNat,Nat.reduceLT,↓reduceIte,reduceEq,Int.reduceLT,reduceLE,d1,d2,d3,d4,g1,w1]
 refine AM.loopI_of (fun k e h'=>∃ (x:Nat),k+x=a+m∧a≤x∧h'=h∧e.val 0=.ptr r 0 0∧e.val 1=.int .i64 (a:Int)∧e.val 2=.int .i64 (m:Int)∧e.val 3=.bool u∧e.val 9=.int .i64 (x:Int)∧(∀ q:Nat,a≤q→q<x→f q=u)) m ?_ ?_
 ·refine ⟨a,by omega,by omega,rfl,?_,?_,?_,?_,?_,fun q h1 h2=>by omega⟩<;>simp -implicitDefEqProofs (disch:=first|exact dz _|fail) only [↓AM.R0,AM.R1,AM.R2,reduceAdd,reduceLeDiff,reduceEqDiff,reduceToNat,Nat.reduceLT,↓reduceIte,reduceEq,Int.reduceLT,reduceLE]
 ·rintro k e h' ⟨x,hk,hba,hh,e0,e1,e2,e3,e9,hf⟩
  rw [hh]
  simp -implicitDefEqProofs (disch:=first|exact dz _|fail) only [↓AM.R0,AM.R1,AM.R2,reduceAdd,reduceLeDiff,reduceEqDiff,reduceToNat,Nat.reduceLT,↓reduceIte,reduceEq,Int.reduceLT,reduceLE,e1,e2,e9,w2]
  refine AM.cI_bool (fun hc=>?_) (fun hc=>?_)
  ·simp only [decide_eq_true_eq] at hc
   have x1:=ix1 g2 (len:=n) (i:=x) (by omega)
   have x2:=ub_at (f:=f) (n:=n) (q:=x) (by omega)
   have w3:IntKind.i64.wrap ((x:Int)+1)=((x+1:Nat):Int):=(wrap64 (by omega) (by omega)).trans (by omega)
   simp -implicitDefEqProofs (disch:=first|exact dz _|fail) only [↓AM.R0,AM.R1,AM.R2,reduceAdd,reduceLeDiff,reduceEqDiff,reduceToNat,Nat.reduceLT,↓reduceIte,reduceEq,Int.reduceLT,reduceLE,e0,e3,e9,g1,g2,x1,x2]
   refine AM.cI_bool (fun hd=>?_) (fun hd=>?_)
   ·have hd':f x=!u:=by cases hh:f x<;>cases u<;>simp_all
    simp -implicitDefEqProofs (disch:=first|exact dz _|fail) only [↓AM.R0,AM.R1,AM.R2,reduceAdd,reduceLeDiff,reduceEqDiff,reduceToNat,Nat.reduceLT,↓reduceIte,reduceEq,Int.reduceLT,reduceLE]
    subst hQ
    exact ⟨f,HFrame.refl (by simpa using lb),R,.inr (.inl ⟨hin,⟨x,by omega,by omega,hd'⟩,rfl,rfl⟩)⟩
   ·have hd':f x=u:=by cases hh:f x<;>cases u<;>simp_all
    simp -implicitDefEqProofs (disch:=first|exact dz _|fail) only [↓AM.R0,AM.R1,AM.R2,reduceAdd,reduceLeDiff,reduceEqDiff,reduceToNat,Nat.reduceLT,↓reduceIte,reduceEq,Int.reduceLT,reduceLE,e9,w3]
    refine ⟨k-1,by omega,x+1,by omega,by omega,e0,e1,e2,e3,rfl,fun q h1 h2=>?_⟩
    rcases Nat.lt_or_ge q x with c | c
    ·exact hf q h1 c
    ·obtain rfl:q=x:=by omega
     exact hd'
  ·simp only [decide_eq_false_iff_not] at hc
   simp -implicitDefEqProofs (disch:=first|exact dz _|fail) only [↓AM.R0,AM.R1,AM.R2,reduceAdd,reduceLeDiff,reduceEqDiff,reduceToNat,Nat.reduceLT,↓reduceIte,reduceEq,Int.reduceLT,reduceLE,e0,e1,e2,e3]
   refine AM.callI_of (rSet R (a:=a) (m:=m) (by omega) u) ?_
   rintro v h5 ⟨f5,R5,rfl⟩
   simp -implicitDefEqProofs (disch:=first|exact dz _|fail) only [↓AM.R0,AM.R1,AM.R2,reduceAdd,reduceLeDiff,reduceEqDiff,reduceToNat,Nat.reduceLT,↓reduceIte,reduceEq,Int.reduceLT,reduceLE]
   subst hQ
   refine ⟨_,f5,R5,.inl ⟨hin,fun q h1 h2=>hf q (by omega) (by omega),fun q=>?_,rfl⟩⟩
   show (if a≤q∧q<a+m then !u else f q)=_
   by_cases c:a≤q∧q<a+m
   ·rw [if_pos c,if_pos (by omega)]
   ·rw [if_neg c,if_neg (by omega)]
theorem cnt_le {f:Nat→Bool}:∀ j p,cntF f j p≤j
 | 0,p=>Nat.le_refl _
 | j+1,p=>by
  rw [cntF];split
  ·have:=cnt_le (f:=f) j (p+1);omega
  ·omega
theorem cnt_row {f:Nat→Bool}:∀ j p,Row f p (cntF f j p)∧(cntF f j p<j→f (p+cntF f j p)=false)
 | 0,p=>⟨fun t ht=>by simp [cntF] at ht,fun h=>by simp [cntF] at h⟩
 | j+1,p=>by
  rw [cntF];split
  ·rename_i h
   obtain ⟨h1,h2⟩:=cnt_row (f:=f) j (p+1)
   refine ⟨fun t ht=>?_,fun q=>?_⟩
   ·rcases t with _ | t
    ·exact h
    ·have:=h1 t (by omega);rwa [show p+(t+1)=p+1+t by omega]
   ·rw [show p+(cntF f j (p+1)+1)=p+1+cntF f j (p+1) by omega];exact h2 (by omega)
  ·rename_i h
   exact ⟨fun t ht=>by omega,fun _=>by simpa using h⟩
theorem cnt_spec {f:Nat→Bool} {n a:Nat} (ho:∀ q,n≤q→f q=false) (ha:a≤n):Row f a (cntF f (n-a) a)∧a+cntF f (n-a) a≤n∧f (a+cntF f (n-a) a)=false:=by
 obtain ⟨h1,h2⟩:=cnt_row (f:=f) (n-a) a
 have h3:=cnt_le (f:=f) (n-a) a
 refine ⟨h1,by omega,?_⟩
 rcases Nat.lt_or_ge (cntF f (n-a) a) (n-a) with c | c
 ·exact h2 c
 ·exact ho _ (by omega)
theorem cnt_max {f:Nat→Bool} {n a k:Nat} (ho:∀ q,n≤q→f q=false) (ha:a≤n) (r:Row f a k):k≤cntF f (n-a) a:=by
 obtain ⟨h1,h2,h3⟩:=cnt_spec ho ha
 rcases Nat.lt_or_ge (cntF f (n-a) a) k with c | c
 ·rw [r _ c] at h3;cases h3
 ·exact c
def AllocF (f g:Nat→Bool) (k:Int) (r:AVal):Prop :=
 (k<1∧g=f∧r=.tup [.int .i64 0,.int .i64 1])∨(1≤k∧(∀ q,¬ Row f q k.toNat)∧g=f∧r=.tup [.int .i64 0,.int .i64 3]) ∨
 (1≤k∧∃ a:Nat,FirstAt f k.toNat a∧(∀ q:Nat,g q=if a≤q∧q<a+k.toNat then false else f q)∧r=.tup [.int .i64 (a:Int),.int .i64 0])
theorem AllocR.toF {ws ws':List Nat} {k:Int} {r:AVal} (h:AllocR ws ws' k r):AllocF (fw ws) (fw ws') k r:=by
 rcases h with ⟨a,d,e⟩ | ⟨a,c,d,e⟩ | h
 ·exact .inl ⟨a,by rw [d],e⟩
 ·exact .inr (.inl ⟨a,c,by rw [d],e⟩)
 ·exact .inr (.inr h)
set_option maxHeartbeats 4000000 in
theorem rAlloc {h:AHeap} {r b n:Nat} {f:Nat→Bool} (R:RefR h r b n f) (k:Int):CallP AP 23 [.ptr r 0 0,.int .i64 k] h fun v h'=>∃ g,HFrame h h' [b] [b]∧RefR h' r b n g∧AllocF f g k v:=by
 refine callP (rfl:Tr.get AP 23=some A23) ?_
 generalize hQ:(fun (r:AVal) (h':AHeap)=>_)=Q
 have g1:=R.obj
 have g2:=R.bits
 have lr:=R.lr
 have lb:=R.lb
 have hn:=R.n2
 simp -implicitDefEqProofs (disch:=first|exact dz _|fail) only [↓AM.R0,AM.R1,AM.R2,reduceAdd,reduceLeDiff,reduceEqDiff,reduceToNat,Nat.reduceLT,↓reduceIte,reduceEq,Int.reduceLT,reduceLE]
 refine AM.cI_bool (fun hb=>?_) (fun hb=>?_)
 ·simp only [decide_eq_true_eq] at hb
  simp -implicitDefEqProofs (disch:=first|exact dz _|fail) only [↓AM.R0,AM.R1,AM.R2,reduceAdd,reduceLeDiff,reduceEqDiff,reduceToNat,Nat.reduceLT,↓reduceIte,reduceEq,Int.reduceLT,reduceLE]
  subst hQ
  exact ⟨f,HFrame.refl (by simpa using lb),R,.inl ⟨hb,rfl,rfl⟩⟩
 simp only [decide_eq_false_iff_not] at hb
 obtain ⟨m,rfl⟩:∃ a:Nat,k=a:=⟨k.toNat,by omega⟩
 simp -implicitDefEqProofs (disch:=first|exact dz _|fail) only [↓AM.R0,AM.R1,AM.R2,reduceAdd,reduceLeDiff,reduceEqDiff,reduceToNat,Nat.reduceLT,↓reduceIte,reduceEq,Int.reduceLT,reduceLE]
 refine AM.loopI_of (fun k e h'=>∃ x:Nat,n+1≤x+k∧x≤n+1∧h'=h∧e.val 0=.ptr r 0 0∧e.val 1=.int .i64 (m:Int)∧e.val 6=.int .i64 (x:Int)∧∀ q,q<x→¬ Row f q m) (n+1) ?_ ?_
 ·refine ⟨0,by omega,by omega,rfl,?_,?_,?_,fun q hq=>by omega⟩<;>simp -implicitDefEqProofs (disch:=first|exact dz _|fail) only [↓AM.R0,AM.R1,AM.R2,reduceAdd,reduceLeDiff,reduceEqDiff,reduceToNat,Nat.reduceLT,↓reduceIte,reduceEq,Int.reduceLT,reduceLE]<;>rfl
 ·rintro k e h' ⟨x,hk,hx,hh,e0,e1,e6,hno⟩
  rw [hh]
  simp -implicitDefEqProofs (disch:=first|exact dz _|fail) only [↓AM.R0,AM.R1,AM.R2,reduceAdd,reduceLeDiff,reduceEqDiff,reduceToNat,Nat.reduceLT,↓reduceIte,reduceEq,Int.reduceLT,reduceLE,e0,e6,g1]
  refine AM.cI_bool (fun hc=>?_) (fun hc=>?_)
  ·simp only [decide_eq_true_eq] at hc
   have hxn:x<n:=by omega
   obtain ⟨c1,c2,c3⟩:=cnt_spec R.out (a:=x) (by omega)
   have cm:=fun k=>cnt_max (k:=k) R.out (a:=x) (by omega)
   simp -implicitDefEqProofs (disch:=first|exact dz _|fail) only [↓AM.R0,AM.R1,AM.R2,reduceAdd,reduceLeDiff,reduceEqDiff,reduceToNat,Nat.reduceLT,↓reduceIte,reduceEq,Int.reduceLT,reduceLE,e0,e6]
   refine AM.callI_of (rRun R (a:=x) (by omega)) ?_
   rintro v h2 ⟨rfl,rfl⟩
   generalize cntF f (n-x) x=c at *
   simp -implicitDefEqProofs (disch:=first|exact dz _|fail) only [↓AM.R0,AM.R1,AM.R2,reduceAdd,reduceLeDiff,reduceEqDiff,reduceToNat,Nat.reduceLT,↓reduceIte,reduceEq,Int.reduceLT,reduceLE,e1]
   refine AM.cI_bool (fun hd=>?_) (fun hd=>?_)
   ·have hd':m≤c:=by simp only [decide_eq_true_eq] at hd;omega
    simp -implicitDefEqProofs (disch:=first|exact dz _|fail) only [↓AM.R0,AM.R1,AM.R2,reduceAdd,reduceLeDiff,reduceEqDiff,reduceToNat,Nat.reduceLT,↓reduceIte,reduceEq,Int.reduceLT,reduceLE,e0,e1,e6]
    refine AM.callI_of (rSet R (a:=x) (m:=m) (by omega) true) ?_
    rintro v h5 ⟨f5,R5,rfl⟩
    simp -implicitDefEqProofs (disch:=first|exact dz _|fail) only [↓AM.R0,AM.R1,AM.R2,reduceAdd,reduceLeDiff,reduceEqDiff,reduceToNat,Nat.reduceLT,↓reduceIte,reduceEq,Int.reduceLT,reduceLE,e6]
    subst hQ
    refine ⟨_,f5,R5,.inr (.inr ⟨by omega,x,⟨?_,?_⟩,fun q=>?_,rfl⟩)⟩
    ·rw [Int.toNat_natCast];exact c1.sub (Nat.le_refl _) (by omega)
    ·rw [Int.toNat_natCast];exact hno
    ·rw [Int.toNat_natCast];rfl
   ·have hd':c<m:=by simp only [decide_eq_false_iff_not] at hd;omega
    have w1:IntKind.i64.wrap ((x:Int)+(c:Int))=((x+c:Nat):Int):=(wrap64 (by omega) (by omega)).trans (by omega)
    have w2:IntKind.i64.wrap (((x+c:Nat):Int)+1)=((x+c+1:Nat):Int):=(wrap64 (by omega) (by omega)).trans (by omega)
    simp -implicitDefEqProofs (disch:=first|exact dz _|fail) only [↓AM.R0,AM.R1,AM.R2,reduceAdd,reduceLeDiff,reduceEqDiff,reduceToNat,Nat.reduceLT,↓reduceIte,reduceEq,Int.reduceLT,reduceLE,e6,w1,w2]
    refine ⟨k-1,by omega,x+c+1,by omega,by omega,e0,e1,rfl,fun q hq hr=>?_⟩
    rcases Nat.lt_or_ge q x with q1 | q1
    ·exact hno q q1 hr
    ·have:=hr (x+c-q) (by omega)
     rw [show q+(x+c-q)=x+c by omega,c3] at this
     cases this
  ·simp only [decide_eq_false_iff_not] at hc
   simp -implicitDefEqProofs (disch:=first|exact dz _|fail) only [↓AM.R0,AM.R1,AM.R2,reduceAdd,reduceLeDiff,reduceEqDiff,reduceToNat,Nat.reduceLT,↓reduceIte,reduceEq,Int.reduceLT,reduceLE]
   subst hQ
   refine ⟨f,HFrame.refl (by simpa using lb),R,.inr (.inl ⟨by omega,fun q=>?_,rfl,rfl⟩)⟩
   rw [Int.toNat_natCast]
   intro hr
   rcases Nat.lt_or_ge q x with q1 | q1
   ·exact hno q q1 hr
   ·have:=hr 0 (by omega)
    rw [R.out _ (by omega)] at this;cases this
end Go.Proofs.YthillgheddpmhaaDoor.Pg
namespace Go.Proofs.YthillgheddpmhaaDoor.Pg
open Go Go.AM Go.Proofs.YthillgheddpmhaaDoor.AmGJ
open Nat (reduceAdd reduceLeDiff reduceEqDiff)
open Int (reduceToNat reduceEq reduceLE)
def freeN (f:Nat→Bool):Nat→Nat
 | 0=>0
 | x+1=>freeN f x+if f x=true then 1 else 0
theorem freeN_row {f:Nat→Bool}:∀ (c p:Nat),Row f p c→freeN f (p+c)=freeN f p+c
 | 0,p,_=>rfl
 | c+1,p,r=>by
  rw [show p+(c+1)=(p+c)+1 by omega,freeN,freeN_row c p (r.sub (Nat.le_refl _) (by omega)),if_pos (r c (by omega))];omega
theorem freeN_out {f:Nat→Bool} {n:Nat} (ho:∀ q,n≤q→f q=false):∀ k,freeN f (n+k)=freeN f n
 | 0=>rfl
 | k+1=>by rw [show n+(k+1)=(n+k)+1 by omega,freeN,freeN_out ho k,ho _ (by omega)];rfl
theorem sum_free {f:Nat→Bool} {n:Nat} (ho:∀ q,n≤q→f q=false):∀ k p,n≤p+k→sumR (rowsF f n k p)+freeN f p=freeN f n
 | 0,p,h=>by
  obtain ⟨j,rfl⟩:∃ j,p=n+j:=⟨p-n,by omega⟩
  rw [freeN_out ho];simp [rowsF,sumR]
 | k+1,p,h=>by
  rw [rowsF]
  split
  ·rename_i hp
   obtain ⟨c1,c2,c3⟩:=cnt_spec ho (a:=p) (by omega)
   have ih:=sum_free ho k (p+cntF f (n-p) p+1) (by omega)
   rw [freeN,freeN_row _ _ c1,c3] at ih
   simp only [Bool.false_eq_true,if_false,Nat.add_zero] at ih
   split
   ·simp only [List.cons_append,List.nil_append]
    have:sumR ((p,cntF f (n-p) p)::rowsF f n k (p+cntF f (n-p) p+1))=cntF f (n-p) p+sumR (rowsF f n k (p+cntF f (n-p) p+1)):=by simp [sumR]
    rw [this];omega
   ·rw [List.nil_append];omega
  ·rename_i hp
   obtain ⟨j,rfl⟩:∃ j,p=n+j:=⟨p-n,by omega⟩
   rw [freeN_out ho];simp [sumR]
def IsMost (f:Nat→Bool) (m:Nat):Prop:=(∀ p k,Row f p k→k≤m)∧∃ p,Row f p m
theorem IsSum.most {f:Nat→Bool} {M:Nat} {x:Sm} (H:IsSum f 0 M x) (ho:∀ q,M≤q→f q=false):IsMost f x.m:=by
 obtain ⟨p,h1,h2,h3⟩:=H.m1
 refine ⟨fun q k r=>?_,p,h3⟩
 rcases Nat.lt_or_ge k 1 with c | c
 ·omega
 ·have h4:=r (k-1) (by omega)
  rcases Nat.lt_or_ge (q+(k-1)) M with c2 | c2
  ·exact H.m2 q k (by omega) (by omega) r
  ·rw [ho _ c2] at h4;cases h4
set_option maxHeartbeats 4000000 in
theorem rCounts {h:AHeap} {r b n:Nat} {f:Nat→Bool} (R:RefR h r b n f):CallP AP 25 [.ptr r 0 0] h fun v h'=>h'=h∧∃ m,IsMost f m∧v=.tup [.int .i64 (freeN f n:Nat),.int .i64 (m:Int)]:=by
 refine callP (rfl:Tr.get AP 25=some A25) ?_
 generalize hQ:(fun (r:AVal) (h':AHeap)=>_)=Q
 have g1:=R.obj
 have g2:=R.bits
 have lr:=R.lr
 have lb:=R.lb
 have hn:=R.n2
 simp -implicitDefEqProofs (disch:=first|exact dz _|fail) only [↓AM.R0,AM.R1,AM.R2,reduceAdd,reduceLeDiff,reduceEqDiff,reduceToNat,Nat.reduceLT,↓reduceIte,reduceEq,Int.reduceLT,reduceLE]
 refine AM.loopI_of (fun k e h'=>∃ x fr mo:Nat,k+x=n∧h'=h∧e.val 0=.ptr r 0 0∧e.val 4=.int .i64 (fr:Int)∧e.val 5=.int .i64 (mo:Int)∧e.val 6=.int .i64 (x:Int)∧fr=freeN f x∧fr≤x∧mo≤n∧(∀ p k,p<x→Row f p k→k≤mo)∧∃ p,Row f p mo) n ?_ ?_
 ·refine ⟨0,0,0,by omega,rfl,?_,?_,?_,?_,rfl,by omega,by omega,fun p k h=>by omega,0,fun t ht=>by omega⟩<;>simp -implicitDefEqProofs (disch:=first|exact dz _|fail) only [↓AM.R0,AM.R1,AM.R2,reduceAdd,reduceLeDiff,reduceEqDiff,reduceToNat,Nat.reduceLT,↓reduceIte,reduceEq,Int.reduceLT,reduceLE]<;>rfl
 ·rintro k e h' ⟨x,fr,mo,hk,hh,e0,e4,e5,e6,hfr,hfx,hmn,hall,hex⟩
  rw [hh]
  simp -implicitDefEqProofs (disch:=first|exact dz _|fail) only [↓AM.R0,AM.R1,AM.R2,reduceAdd,reduceLeDiff,reduceEqDiff,reduceToNat,Nat.reduceLT,↓reduceIte,reduceEq,Int.reduceLT,reduceLE,e0,e6,g1]
  refine AM.cI_bool (fun hc=>?_) (fun hc=>?_)
  ·simp only [decide_eq_true_eq] at hc
   have hxn:x<n:=by omega
   have x1:=ix1 g2 (len:=n) (i:=x) hxn
   have x2:=ub_at (f:=f) hxn
   obtain ⟨c1,c2,c3⟩:=cnt_spec R.out (a:=x) (by omega)
   have cm:=fun k=>cnt_max (k:=k) R.out (a:=x) (by omega)
   have w1:IntKind.i64.wrap ((x:Int)+1)=((x+1:Nat):Int):=(wrap64 (by omega) (by omega)).trans (by omega)
   have w2:IntKind.i64.wrap ((fr:Int)+1)=((fr+1:Nat):Int):=(wrap64 (by omega) (by omega)).trans (by omega)
   simp -implicitDefEqProofs (disch:=first|exact dz _|fail) only [↓AM.R0,AM.R1,AM.R2,reduceAdd,reduceLeDiff,reduceEqDiff,reduceToNat,Nat.reduceLT,↓reduceIte,reduceEq,Int.reduceLT,reduceLE,e0,e6,g1,g2,x1,x2]
   rw [Bool.not_not]
   refine AM.cI_bool (fun hd=>?_) (fun hd=>?_)
   ·simp -implicitDefEqProofs (disch:=first|exact dz _|fail) only [↓AM.R0,AM.R1,AM.R2,reduceAdd,reduceLeDiff,reduceEqDiff,reduceToNat,Nat.reduceLT,↓reduceIte,reduceEq,Int.reduceLT,reduceLE,e0,e4,e6,w2]
    refine AM.callI_of (rRun R (a:=x) (by omega)) ?_
    rintro v h2 ⟨rfl,rfl⟩
    generalize cntF f (n-x) x=c at *
    simp -implicitDefEqProofs (disch:=first|exact dz _|fail) only [↓AM.R0,AM.R1,AM.R2,reduceAdd,reduceLeDiff,reduceEqDiff,reduceToNat,Nat.reduceLT,↓reduceIte,reduceEq,Int.reduceLT,reduceLE,e5]
    refine AM.cI_bool (fun hg=>?_) (fun hg=>?_)
    ·simp only [decide_eq_true_eq] at hg
     simp -implicitDefEqProofs (disch:=first|exact dz _|fail) only [↓AM.R0,AM.R1,AM.R2,reduceAdd,reduceLeDiff,reduceEqDiff,reduceToNat,Nat.reduceLT,↓reduceIte,reduceEq,Int.reduceLT,reduceLE,e6,w1]
     refine ⟨k-1,by omega,x+1,fr+1,c,by omega,e0,rfl,rfl,rfl,by rw [freeN,if_pos hd,hfr],by omega,by omega,fun p k hp hr=>?_,x,c1⟩
     rcases Nat.lt_or_ge p x with q | q
     ·have:=hall p k q hr;omega
     ·obtain rfl:p=x:=by omega
      exact cm k hr
    ·simp only [decide_eq_false_iff_not] at hg
     simp -implicitDefEqProofs (disch:=first|exact dz _|fail) only [↓AM.R0,AM.R1,AM.R2,reduceAdd,reduceLeDiff,reduceEqDiff,reduceToNat,Nat.reduceLT,↓reduceIte,reduceEq,Int.reduceLT,reduceLE,e6,w1]
     refine ⟨k-1,by omega,x+1,fr+1,mo,by omega,e0,rfl,e5,rfl,by rw [freeN,if_pos hd,hfr],by omega,by omega,fun p k hp hr=>?_,hex⟩
     rcases Nat.lt_or_ge p x with q | q
     ·exact hall p k q hr
     ·obtain rfl:p=x:=by omega
      have:=cm k hr;omega
   ·simp -implicitDefEqProofs (disch:=first|exact dz _|fail) only [↓AM.R0,AM.R1,AM.R2,reduceAdd,reduceLeDiff,reduceEqDiff,reduceToNat,Nat.reduceLT,↓reduceIte,reduceEq,Int.reduceLT,reduceLE,e6,w1]
    refine ⟨k-1,by omega,x+1,fr,mo,by omega,e0,e4,e5,rfl,by rw [freeN,hd,hfr];rfl,by omega,by omega,fun p k hp hr=>?_,hex⟩
    rcases Nat.lt_or_ge p x with q | q
    ·exact hall p k q hr
    ·obtain rfl:p=x:=by omega
     rcases Nat.lt_or_ge k 1 with c | c
     ·omega
     ·have:=hr 0 (by omega)
      rw [Nat.add_zero,hd] at this;cases this
  ·simp only [decide_eq_false_iff_not] at hc
   obtain rfl:x=n:=by omega
   simp -implicitDefEqProofs (disch:=first|exact dz _|fail) only [↓AM.R0,AM.R1,AM.R2,reduceAdd,reduceLeDiff,reduceEqDiff,reduceToNat,Nat.reduceLT,↓reduceIte,reduceEq,Int.reduceLT,reduceLE,e4,e5]
   subst hQ
   refine ⟨rfl,mo,⟨fun p k hr=>?_,hex⟩,by rw [hfr]⟩
   rcases Nat.lt_or_ge p x with q | q
   ·exact hall p k q hr
   ·rcases Nat.lt_or_ge k 1 with c | c
    ·omega
    ·have:=hr 0 (by omega)
     rw [R.out _ (by omega)] at this;cases this
end Go.Proofs.YthillgheddpmhaaDoor.Pg
namespace Go.Proofs.YthillgheddpmhaaDoor.Pg
open Go Go.AM Go.Proofs.YthillgheddpmhaaDoor.AmGJ
open Nat (reduceAdd reduceLeDiff reduceEqDiff)
open Int (reduceToNat reduceEq reduceLE)
structure Sp where
 a:Nat
 k:Nat
 t:Int
def encT (s:Sp):List AVal:=[.int .i64 (s.a:Int),.int .i64 (s.k:Int),.int .i64 s.t]
def zSp:Sp:=⟨0,0,0⟩
def atL:List Sp→Nat→Sp
 | [],_=>zSp
 | s::l,q=>if s.a=q then s else atL l q
structure SInv (n:Nat) (f:Nat→Bool) (L:List Sp):Prop where
 c1:∀ s,s∈L→1≤s.k∧s.a+s.k≤n
 cov:∀ q,q<n→(f q=false↔∃ s,s∈L∧s.a≤q∧q<s.a+s.k)
 srt:L.Pairwise fun s t=>s.a+s.k≤t.a
theorem sp_uniq:∀ {L:List Sp},L.Pairwise (fun s t=>s.a+s.k≤t.a)→∀ {s t:Sp} {q:Nat},s∈L→t∈L→s.a≤q→q<s.a+s.k→t.a≤q→q<t.a+t.k→s=t
 | [],_,s,t,q,h,_,_,_,_,_=>by simp at h
 | x::l,hp,s,t,q,hs,ht,h1,h2,h3,h4=>by
  rw [List.pairwise_cons] at hp
  rcases List.mem_cons.1 hs with e1 | e1<;>rcases List.mem_cons.1 ht with e2 | e2
  ·rw [e1,e2]
  ·have:=hp.1 t e2;rw [←e1] at this;omega
  ·have:=hp.1 s e1;rw [←e2] at this;omega
  ·exact sp_uniq hp.2 e1 e2 h1 h2 h3 h4
theorem SInv.same {n:Nat} {f:Nat→Bool} {L:List Sp} (I:SInv n f L) {s t:Sp} (hs:s∈L) (ht:t∈L) (h:s.a=t.a):s=t:=by
 have:=I.c1 s hs
 have:=I.c1 t ht
 exact sp_uniq I.srt (q:=s.a) hs ht (by omega) (by omega) (by omega) (by omega)
theorem atL_none:∀ {L:List Sp} {q:Nat},(∀ s,s∈L→s.a≠q)→atL L q=zSp
 | [],_,_=>rfl
 | s::l,q,h=>by rw [atL,if_neg (h s List.mem_cons_self),atL_none fun t ht=>h t (List.mem_cons_of_mem _ ht)]
theorem atL_some:∀ {L:List Sp} {q:Nat},(∃ s,s∈L∧s.a=q)→atL L q∈L∧(atL L q).a=q
 | [],_,h=>by obtain ⟨s,h,_⟩:=h;simp at h
 | s::l,q,h=>by
  rw [atL]
  by_cases e:s.a=q
  ·rw [if_pos e];exact ⟨List.mem_cons_self,e⟩
  ·rw [if_neg e]
   obtain ⟨t,ht,hq⟩:=h
   rcases List.mem_cons.1 ht with e2 | e2
   ·rw [e2] at hq;exact absurd hq e
   ·obtain ⟨h1,h2⟩:=atL_some ⟨t,e2,hq⟩
    exact ⟨List.mem_cons_of_mem _ h1,h2⟩
theorem SInv.at {n:Nat} {f:Nat→Bool} {L:List Sp} (I:SInv n f L) {s:Sp} (hs:s∈L):atL L s.a=s:=by
 obtain ⟨h1,h2⟩:=atL_some ⟨s,hs,rfl⟩
 exact I.same h1 hs h2
def insF:List Sp→Sp→List Sp
 | [],s=>[s]
 | t::l,s=>if s.a<t.a then s::t::l else t::insF l s
theorem mem_insF:∀ {L:List Sp} {s x:Sp},x∈insF L s↔x=s∨x∈L
 | [],s,x=>by simp [insF]
 | t::l,s,x=>by
  rw [insF]
  split
  ·simp
  ·rw [List.mem_cons,mem_insF,List.mem_cons]
   constructor
   ·rintro (h | h | h)
    ·exact .inr (.inl h)
    ·exact .inl h
    ·exact .inr (.inr h)
   ·rintro (h | h | h)
    ·exact .inr (.inl h)
    ·exact .inl h
    ·exact .inr (.inr h)
theorem insF_srt:∀ {L:List Sp} {s:Sp},L.Pairwise (fun s t=>s.a+s.k≤t.a)→(∀ t,t∈L→t.a+t.k≤s.a∨s.a+s.k≤t.a)→1≤s.k→(insF L s).Pairwise fun s t=>s.a+s.k≤t.a
 | [],s,_,_,_=>by simp [insF]
 | t::l,s,hp,hd,hk=>by
  rw [insF]
  rw [List.pairwise_cons] at hp
  split
  ·rename_i hlt
   have h0:=hd t List.mem_cons_self
   rw [List.pairwise_cons,List.pairwise_cons]
   refine ⟨fun x hx=>?_,hp⟩
   rcases List.mem_cons.1 hx with e | e
   ·rw [e];omega
   ·have:=hp.1 x e;omega
  ·rename_i hlt
   have h0:=hd t List.mem_cons_self
   rw [List.pairwise_cons]
   refine ⟨fun x hx=>?_,insF_srt hp.2 (fun x hx=>hd x (List.mem_cons_of_mem _ hx)) hk⟩
   rcases mem_insF.1 hx with e | e
   ·rw [e];omega
   ·exact hp.1 x e
theorem SInv.apart {n:Nat} {f:Nat→Bool} {L:List Sp} (I:SInv n f L) {s:Sp} (hk:1≤s.k) (hr:∀ q,s.a≤q→q<s.a+s.k→f q=true):∀ t,t∈L→t.a+t.k≤s.a∨s.a+s.k≤t.a:=fun t ht=>by
 obtain ⟨h1,h2⟩:=I.c1 t ht
 rcases Nat.lt_or_ge s.a (t.a+t.k) with c1 | c1
 ·rcases Nat.lt_or_ge t.a (s.a+s.k) with c2 | c2
  ·exfalso
   have hq:∃ q,t.a≤q∧q<t.a+t.k∧s.a≤q∧q<s.a+s.k:=by
    rcases Nat.lt_or_ge s.a t.a with c | c
    ·exact ⟨t.a,by omega,by omega,by omega,by omega⟩
    ·exact ⟨s.a,by omega,by omega,by omega,by omega⟩
   obtain ⟨q,q1,q2,q3,q4⟩:=hq
   have:=(I.cov q (by omega)).2 ⟨t,ht,q1,q2⟩
   rw [hr q q3 q4] at this
   cases this
  ·exact .inr c2
 ·exact .inl c1
theorem SInv.ins {n:Nat} {f g:Nat→Bool} {L:List Sp} (I:SInv n f L) {s:Sp} (hk:1≤s.k) (hn:s.a+s.k≤n) (hr:∀ q,s.a≤q→q<s.a+s.k→f q=true) (hg:∀ q,g q=if s.a≤q∧q<s.a+s.k then false else f q):SInv n g (insF L s):=by
 refine ⟨fun t ht=>?_,fun q hq=>?_,insF_srt I.srt (I.apart hk hr) hk⟩
 ·rcases mem_insF.1 ht with rfl | e
  ·exact ⟨hk,hn⟩
  ·exact I.c1 t e
 ·rw [hg]
  by_cases c:s.a≤q∧q<s.a+s.k
  ·rw [if_pos c]
   exact ⟨fun _=>⟨s,mem_insF.2 (.inl rfl),c⟩,fun _=>rfl⟩
  ·rw [if_neg c,I.cov q hq]
   constructor
   ·rintro ⟨t,h1,h2⟩;exact ⟨t,mem_insF.2 (.inr h1),h2⟩
   ·rintro ⟨t,h1,h2⟩
    rcases mem_insF.1 h1 with rfl | e
    ·exact absurd h2 c
    ·exact ⟨t,e,h2⟩
theorem SInv.at_ins {n:Nat} {f g:Nat→Bool} {L:List Sp} {s:Sp} (J:SInv n g (insF L s)) (q:Nat):atL (insF L s) q=if q=s.a then s else atL L q:=by
 by_cases e:q=s.a
 ·rw [if_pos e,e];exact J.at (mem_insF.2 (.inl rfl))
 ·rw [if_neg e]
  by_cases h:∃ t,t∈L∧t.a=q
  ·obtain ⟨h1,h2⟩:=atL_some h
   have:=J.at (mem_insF.2 (.inr h1):atL L q∈insF L s)
   rwa [h2] at this
  ·rw [atL_none fun t ht e2=>h ⟨t,ht,e2⟩,atL_none]
   intro t ht e2
   rcases mem_insF.1 ht with rfl | e3
   ·exact e e2.symm
   ·exact h ⟨t,e3,e2⟩
def remF (L:List Sp) (b:Nat):List Sp:=L.filter fun s=>s.a != b
theorem mem_remF {L:List Sp} {b:Nat} {x:Sp}:x∈remF L b↔x∈L∧x.a≠b:=by simp [remF]
theorem SInv.rem {n:Nat} {f g:Nat→Bool} {L:List Sp} (I:SInv n f L) {s:Sp} (hs:s∈L) (hg:∀ q,g q=if s.a≤q∧q<s.a+s.k then true else f q):SInv n g (remF L s.a):=by
 refine ⟨fun t ht=>I.c1 t (mem_remF.1 ht).1,fun q hq=>?_,I.srt.filter _⟩
 rw [hg]
 by_cases c:s.a≤q∧q<s.a+s.k
 ·rw [if_pos c]
  refine ⟨fun h=>(by cases h),fun ⟨t,h1,h2,h3⟩=>?_⟩
  obtain ⟨h1,h4⟩:=mem_remF.1 h1
  exact absurd (by rw [sp_uniq I.srt h1 hs h2 h3 c.1 c.2]) h4
 ·rw [if_neg c,I.cov q hq]
  constructor
  ·rintro ⟨t,h1,h2⟩
   refine ⟨t,mem_remF.2 ⟨h1,fun e=>?_⟩,h2⟩
   rw [I.same h1 hs e] at h2
   exact c h2
  ·rintro ⟨t,h1,h2⟩;exact ⟨t,(mem_remF.1 h1).1,h2⟩
theorem at_rem {L:List Sp} {b:Nat} (q:Nat):atL (remF L b) q=if q=b then zSp else atL L q:=by
 induction L with
 | nil=>simp [remF,atL]
 | cons s l ih =>
  unfold remF at ih ⊢
  rw [List.filter_cons]
  by_cases e:s.a=b
  ·have:(s.a != b)=false:=by simp [e]
   rw [this,if_neg (by simp),ih,atL]
   by_cases e2:q=b
   ·rw [if_pos e2,if_pos e2]
   ·rw [if_neg e2,if_neg e2,if_neg (by omega)]
  ·have:(s.a != b)=true:=by simp [e]
   rw [this,if_pos rfl,atL,ih,atL]
   by_cases e2:s.a=q
   ·rw [if_pos e2,if_pos e2,if_neg (by omega)]
   ·rw [if_neg e2,if_neg e2]
def findF (L:List Sp) (x:Int):Option Sp:=L.find? fun s=>decide ((s.a:Int)≤x)&&decide (x-s.a<s.k)
theorem SInv.find {n:Nat} {f:Nat→Bool} {L:List Sp} (I:SInv n f L) {s:Sp} (hs:s∈L) {q:Nat} (h1:s.a≤q) (h2:q<s.a+s.k):findF L q=some s:=by
 have hsome:(findF L q).isSome:=by
  unfold findF
  rw [List.find?_isSome]
  exact ⟨s,hs,by simp;omega⟩
 obtain ⟨t,ht⟩:=Option.isSome_iff_exists.1 hsome
 rw [ht]
 have h3:=List.find?_some ht
 have h4:=List.mem_of_find?_eq_some ht
 simp only [Bool.and_eq_true,decide_eq_true_eq] at h3
 rw [sp_uniq I.srt h4 hs (q:=q) (by omega) (by omega) h1 h2]
theorem find_mem {L:List Sp} {x:Int} {s:Sp} (h:findF L x=some s):s∈L∧(s.a:Int)≤x∧x-s.a<s.k:=by
 have h3:=List.find?_some h
 simp only [Bool.and_eq_true,decide_eq_true_eq] at h3
 exact ⟨List.mem_of_find?_eq_some h,h3⟩
/-! Rows,one for each place. -/
theorem fl_split (g:Nat→List AVal) (q r:Nat):(List.range (q+(r+1))).flatMap g=(List.range q).flatMap g++(g q++(List.range r).flatMap fun x=>g (q+(x+1))):=by
 rw [List.range_add,List.flatMap_append,List.range_succ_eq_map,List.flatMap_map,List.flatMap_cons,List.flatMap_map]
 rfl
theorem fl_len {g:Nat→List AVal} {m:Nat} (hg:∀ q,(g q).length=m):∀ n,((List.range n).flatMap g).length=n*m
 | 0=>by simp
 | n+1=>by rw [List.range_succ,List.flatMap_append,List.length_append,fl_len hg n];simp [hg,Nat.add_mul]
theorem fl_at {g:Nat→List AVal} {m n q:Nat} (hg:∀ q,(g q).length=m) (h:q<n):(((List.range n).flatMap g).drop (q*m)).take m=g q:=by
 obtain ⟨r,rfl⟩:∃ r,n=q+(r+1):=⟨n-q-1,by omega⟩
 rw [fl_split,List.drop_append,fl_len hg,List.drop_of_length_le (by rw [fl_len hg];exact Nat.le_refl _),List.nil_append,Nat.sub_self,List.drop_zero,List.take_append,hg,Nat.sub_self,List.take_zero,List.append_nil,List.take_of_length_le (by rw [hg];exact Nat.le_refl _)]
theorem fl_set {g g':Nat→List AVal} {m n q:Nat} {v:List AVal} (hg:∀ q,(g q).length=m) (h:q<n) (e:∀ x,g' x=if x=q then v else g x):((List.range n).flatMap g).take (q*m)++v++((List.range n).flatMap g).drop (q*m+m)=(List.range n).flatMap g':=by
 obtain ⟨r,rfl⟩:∃ r,n=q+(r+1):=⟨n-q-1,by omega⟩
 have h1:(List.range q).flatMap g'=(List.range q).flatMap g:=by
  rw [List.flatMap_def,List.flatMap_def]
  congr 1
  exact List.map_congr_left fun x hx=>by rw [List.mem_range] at hx;rw [e,if_neg (by omega)]
 have h2:((List.range r).flatMap fun x=>g' (q+(x+1)))=(List.range r).flatMap fun x=>g (q+(x+1)):=by
  rw [List.flatMap_def,List.flatMap_def]
  congr 1
  exact List.map_congr_left fun x hx=>by rw [e,if_neg (by omega)]
 rw [fl_split g',h1,h2,e,if_pos rfl,fl_split g]
 rw [List.take_append,List.take_of_length_le (by rw [fl_len hg];exact Nat.le_refl _),fl_len hg,Nat.sub_self,List.take_zero,List.append_nil]
 rw [List.drop_append,List.drop_of_length_le (by rw [fl_len hg];omega),fl_len hg,List.nil_append,show q*m+m-q*m=m by omega,List.drop_append,hg,Nat.sub_self,List.drop_zero,List.drop_of_length_le (by rw [hg];exact Nat.le_refl _),List.nil_append,List.append_assoc]
end Go.Proofs.YthillgheddpmhaaDoor.Pg
namespace Go.Proofs.YthillgheddpmhaaDoor.Pg
open Go Go.AM Go.Proofs.YthillgheddpmhaaDoor.AmGJ
open Nat (reduceAdd reduceLeDiff reduceEqDiff)
open Int (reduceToNat reduceEq reduceLE)
def spV (L:List Sp) (n:Nat):List AVal:=(List.range n).flatMap fun q=>encT (atL L q)
def owV (ow:List Nat):List AVal:=ow.map fun x:Nat=>AVal.int .i64 (x:Int)
structure TabP (h:AHeap) (t so oo:Nat) (p:PI) (n:Nat) (ws:List Nat) (lv:List (List Sm)) (L:List Sp):Prop where
 K:PgV h p n ws lv
 I:SInv n (fw ws) L
 obj:h.get t=.cells 0 false [.ptr p.id 0 0,.sl so 0 0 n 3,.sl oo 0 0 n 1]
 sp:h.get so=.cells 0 false (spV L n)
 ow:∃ ow:List Nat,ow.length=n∧h.get oo=.cells 0 false (owV ow)∧∀ s,s∈L→∀ q,s.a≤q→q<s.a+s.k→ow[q]?=some s.a
 lt:t<h.n∧so<h.n∧oo<h.n
 ne:t≠so∧t≠oo∧so≠oo
 nF:t ∉ p.F∧so ∉ p.F∧oo ∉ p.F
theorem TabP.keepD {h h':AHeap} {A A':List Nat} {t so oo:Nat} {p:PI} {n:Nat} {ws:List Nat} {lv:List (List Sm)} {L:List Sp} (R:TabP h t so oo p n ws lv L) (f:HFrame h h' A A') (d:∀ j,j∈p.F++[t,so,oo]→j ∉ A):TabP h' t so oo p n ws lv L:=by
 obtain ⟨ow,o1,o2,o3⟩:=R.ow
 obtain ⟨l1,l2,l3⟩:=R.lt
 have hn:=f.n
 refine ⟨R.K.keepD f fun j hj=>d j (List.mem_append_left _ hj),R.I,(f.get t l1 (d t (by simp))).trans R.obj,(f.get so l2 (d so (by simp))).trans R.sp,⟨ow,o1,(f.get oo l3 (d oo (by simp))).trans o2,o3⟩,⟨by omega,by omega,by omega⟩,R.ne,R.nF⟩
theorem TabP.keep {h h':AHeap} {A:List Nat} {t so oo:Nat} {p:PI} {n:Nat} {ws:List Nat} {lv:List (List Sm)} {L:List Sp} (R:TabP h t so oo p n ws lv L) (f:HFrame h h' [] A):TabP h' t so oo p n ws lv L:=R.keepD f (by simp)
theorem TabP.flt {h:AHeap} {t so oo:Nat} {p:PI} {n:Nat} {ws:List Nat} {lv:List (List Sm)} {L:List Sp} (R:TabP h t so oo p n ws lv L):∀ j,j∈p.F++[t,so,oo]→j<h.n:=fun j hj=>by
 obtain ⟨l1,l2,l3⟩:=R.lt
 simp only [List.mem_append,List.mem_cons,List.not_mem_nil,or_false] at hj
 rcases hj with h | rfl | rfl | rfl
 ·exact R.K.R.lt j h
 ·exact l1
 ·exact l2
 ·exact l3
theorem sp_len (L:List Sp) (n:Nat):(spV L n).length=n*3:=fl_len (g:=fun q=>encT (atL L q)) (m:=3) (fun _=>rfl) n
theorem sp_at {L:List Sp} {n q:Nat} (h:q<n):((spV L n).drop (q*3)).take 3=encT (atL L q):=fl_at (g:=fun q=>encT (atL L q)) (fun _=>rfl) h
theorem ow_at {ow:List Nat} {q x:Nat} (h:ow[q]?=some x):(owV ow)[q]?=some (.int .i64 (x:Int)):=by unfold owV;rw [List.getElem?_map,h];rfl
theorem ix3 {H:AHeap} {j g len:Nat} {ro:Bool} {vs:List AVal} (e:H.get j=.cells g ro vs) {i:Nat} (h:i<len):ixV H 3 (.sl j g 0 len 3) (.int .i64 (i:Int))=some (.ptr j g (i*3),H):=by
 have:=AM.ix_sl (k:=.i64) (n:=(i:Int)) (len:=len) (esz:=3) (off:=0) H e (by omega) (by omega)
 simpa using this
def retT (o:Option (AVal×AHeap)) (w:AVal) (h:AHeap):Option (AVal×AHeap):=o.map fun p=>(.tup [p.1,w],h)
theorem res_ct (e:Env) (h:AHeap) (t u:Nat) (n:Option Nat):((resOf ⟨e,h⟩ [.cell t n,.tmp u]).map fun v=>(v,h))=retT (aop e h (.load n (.tmp t))) (e.val u) h:=by
 simp only [resOf,resVals,resVal,retT]
 cases aop e h (.load n (.tmp t))<;>rfl
theorem retT_some (v w:AVal) (h' h:AHeap):retT (some (v,h')) w h=some (.tup [v,w],h):=rfl
def encF:Option Sp→AVal
 | some s=>.tup [.agg (encT s),.bool true]
 | none=>.tup [.agg (encT zSp),.bool false]
theorem findIn {h:AHeap} {t so oo:Nat} {p:PI} {n:Nat} {ws:List Nat} {lv:List (List Sm)} {L:List Sp} (R:TabP h t so oo p n ws lv L) {x:Int} {s:Sp} (e:findF L x=some s):∃ q:Nat,x=q∧q<n∧s∈L∧s.a≤q∧q<s.a+s.k∧fw ws q=false:=by
 obtain ⟨h1,h2,h3⟩:=find_mem e
 obtain ⟨h4,h5⟩:=R.I.c1 s h1
 obtain ⟨q,rfl⟩:∃ a:Nat,x=a:=⟨x.toNat,by omega⟩
 exact ⟨q,rfl,by omega,h1,by omega,by omega,(R.I.cov q (by omega)).2 ⟨s,h1,by omega,by omega⟩⟩
set_option maxHeartbeats 4000000 in
theorem findW {h:AHeap} {t so oo:Nat} {p:PI} {n:Nat} {ws:List Nat} {lv:List (List Sm)} {L:List Sp} (R:TabP h t so oo p n ws lv L) (x:Int):CallP AP 32 [.ptr t 0 0,.int .i64 x] h fun r h'=>HFrame h h' [] []∧r=encF (findF L x):=by
 refine callP (rfl:Tr.get AP 32=some A32) ?_
 generalize hQ:(fun (r:AVal) (h':AHeap)=>_)=Q
 have g1:=R.obj
 have g2:=R.sp
 obtain ⟨ow,o1,g3,o3⟩:=R.ow
 obtain ⟨l1,l2,l3⟩:=R.lt
 have f0:=(HFrame.refl (h:=h) (F:=[]) (by simp)).pushTmp (.cells 0 false [.int .i64 0,.int .i64 0,.int .i64 0])
 have nfind:(∀ q:Nat,x=q→q<n→fw ws q=true)→findF L x=none:=fun hq=>by
  cases e:findF L x with
  | none=>rfl
  | some s =>
   obtain ⟨q,q1,q2,_,_,_,q6⟩:=findIn R e
   rw [hq q q1 q2] at q6;cases q6
 rcases Int.lt_or_le x 0 with c | c
 ·have d1:decide (x<0)=true:=decide_eq_true c
  simp -implicitDefEqProofs (disch:=first|exact dz _|fail) only [↓AM.R0,AM.R1,AM.R2,reduceAdd,reduceLeDiff,reduceEqDiff,reduceToNat,Nat.reduceLT,↓reduceIte,reduceEq,Int.reduceLT,reduceLE,res_ct,retT_some,d1]
  subst hQ
  rw [nfind fun q h1 _=>by omega]
  exact ⟨f0.setTmp (Nat.le_refl _) _,rfl⟩
 have d1:decide (x<0)=false:=decide_eq_false (by omega)
 obtain ⟨q,rfl⟩:∃ a:Nat,x=a:=⟨x.toNat,by omega⟩
 rcases Nat.lt_or_ge q n with e | e
 rotate_left
 ·have d2:decide ((n:Int)≤(q:Int))=true:=decide_eq_true (by omega)
  simp -implicitDefEqProofs (disch:=first|exact dz _|fail) only [↓AM.R0,AM.R1,AM.R2,reduceAdd,reduceLeDiff,reduceEqDiff,reduceToNat,Nat.reduceLT,↓reduceIte,reduceEq,Int.reduceLT,reduceLE,res_ct,retT_some,d1,d2,g1]
  subst hQ
  rw [nfind fun q' h1 h2=>by omega]
  exact ⟨f0.setTmp (Nat.le_refl _) _,rfl⟩
 have d2:decide ((n:Int)≤(q:Int))=false:=decide_eq_false (by omega)
 have R0:=R.keep f0
 simp -implicitDefEqProofs (disch:=first|exact dz _|fail) only [↓AM.R0,AM.R1,AM.R2,reduceAdd,reduceLeDiff,reduceEqDiff,reduceToNat,Nat.reduceLT,↓reduceIte,reduceEq,Int.reduceLT,reduceLE,res_ct,retT_some,d1,d2,g1]
 refine AM.callI_of (usedW R0.K (q:Int)) ?_
 rintro r h2 ⟨rfl,rfl⟩
 rw [fi_nat]
 cases hq:fw ws q with
 | true =>
  simp -implicitDefEqProofs (disch:=first|exact dz _|fail) only [↓AM.R0,AM.R1,AM.R2,reduceAdd,reduceLeDiff,reduceEqDiff,reduceToNat,Nat.reduceLT,↓reduceIte,reduceEq,Int.reduceLT,reduceLE,res_ct,retT_some]
  subst hQ
  rw [nfind fun q' h1 h2=>by rw [show q'=q by omega];exact hq]
  exact ⟨f0.setTmp (Nat.le_refl _) _,rfl⟩
 | false =>
  obtain ⟨s,hs,s1,s2⟩:=(R.I.cov q e).1 hq
  have h3:=R.I.c1 s hs
  have oq:=ow_at (o3 s hs q s1 s2)
  have x1:=ix1 (H:=h.push (.cells 0 false [.int .i64 0,.int .i64 0,.int .i64 0])) (j:=oo) (g:=0) (len:=n) (i:=q) (vs:=owV ow) (ro:=false) (by rw [AHeap.get_push_ne _ _ (by omega)];exact g3) e
  have x3:=ix3 (H:=h.push (.cells 0 false [.int .i64 0,.int .i64 0,.int .i64 0])) (j:=so) (g:=0) (len:=n) (i:=s.a) (vs:=spV L n) (ro:=false) (by rw [AHeap.get_push_ne _ _ (by omega)];exact g2) (by omega)
  have xs:=sp_at (L:=L) (n:=n) (q:=s.a) (by omega)
  rw [R.I.at hs] at xs
  have xl:s.a*3+3≤(spV L n).length:=by rw [sp_len];omega
  simp only [encT] at xs
  simp -implicitDefEqProofs (disch:=first|exact dz _|fail) only [↓AM.R0,AM.R1,AM.R2,reduceAdd,reduceLeDiff,reduceEqDiff,reduceToNat,Nat.reduceLT,↓reduceIte,reduceEq,Int.reduceLT,reduceLE,res_ct,retT_some,g1,g2,g3,x1,x3,oq,xs,xl]
  subst hQ
  rw [R.I.find hs s1 s2]
  exact ⟨f0.setTmp (Nat.le_refl _) _,rfl⟩
end Go.Proofs.YthillgheddpmhaaDoor.Pg
namespace Go.Proofs.YthillgheddpmhaaDoor.Pg
open Go Go.AM Go.Proofs.YthillgheddpmhaaDoor.AmGJ
open Nat (reduceAdd reduceLeDiff reduceEqDiff)
open Int (reduceToNat reduceEq reduceLE)
def AllocS (f g:Nat→Bool) (L L':List Sp) (k tag:Int) (r:AVal):Prop:=∃ v,AllocF f g k v ∧
 ((∃ e:Int,e≠0∧v=.tup [.int .i64 0,.int .i64 e]∧L'=L∧r=.tup [.agg (encT zSp),.int .i64 e]) ∨
  (∃ a:Nat,v=.tup [.int .i64 (a:Int),.int .i64 0]∧1≤k∧L'=insF L ⟨a,k.toNat,tag⟩∧r=.tup [.agg (encT ⟨a,k.toNat,tag⟩),.int .i64 0]))
theorem fl_spV {L L':List Sp} {n a:Nat} {s:Sp} (h:a<n) (e:∀ q,atL L' q=if q=a then s else atL L q):(spV L n).take (a*3)++encT s++(spV L n).drop (a*3+3)=spV L' n :=
 fl_set (g:=fun q=>encT (atL L q)) (g':=fun q=>encT (atL L' q)) (fun _=>rfl) h fun x=>by rw [e];split<;>rfl
set_option maxHeartbeats 8000000 in
theorem allocS {h:AHeap} (T:TabR h) {t so oo:Nat} {p:PI} {n:Nat} {ws:List Nat} {lv:List (List Sm)} {L:List Sp} (R:TabP h t so oo p n ws lv L) (h0:0 ∉ p.F++[t,so,oo]) (k tag:Int) :
  CallP AP 31 [.ptr t 0 0,.int .i64 k,.int .i64 tag] h fun r h'=>∃ ws' lv' L',HFrame h h' (p.F++[t,so,oo]) (p.F++[t,so,oo])∧TabP h' t so oo p n ws' lv' L'∧AllocS (fw ws) (fw ws') L L' k tag r:=by
 refine callP (rfl:Tr.get AP 31=some A31) ?_
 generalize hQ:(fun (r:AVal) (h':AHeap)=>_)=Q
 have g1:=R.obj
 obtain ⟨l1,l2,l3⟩:=R.lt
 obtain ⟨e1,e2,e3⟩:=R.ne
 obtain ⟨n1,n2,n3⟩:=R.nF
 have hn2:=R.K.n2
 have flt:=R.flt
 have fa:=(HFrame.refl (h:=h) (F:=[]) (by simp)).pushTmp (.cells 0 false [.int .i64 0,.int .i64 0,.int .i64 0])
 have fA:=(HFrame.refl flt).pushTmp (.cells 0 false [.int .i64 0,.int .i64 0,.int .i64 0])
 have R0:=R.keep fa
 have T0:=T.frame fa (by simp)
 simp -implicitDefEqProofs (disch:=first|exact dz _|fail) only [↓AM.R0,AM.R1,AM.R2,reduceAdd,reduceLeDiff,reduceEqDiff,reduceToNat,Nat.reduceLT,↓reduceIte,reduceEq,Int.reduceLT,reduceLE,g1]
 have ga:(h.push (.cells 0 false [.int .i64 0,.int .i64 0,.int .i64 0])).get h.n=.cells 0 false [.int .i64 0,.int .i64 0,.int .i64 0]:=AHeap.get_push_same _ _
 have na:(h.push (.cells 0 false [.int .i64 0,.int .i64 0,.int .i64 0])).n=h.n+1:=by simp
 generalize h.push (.cells 0 false [.int .i64 0,.int .i64 0,.int .i64 0])=ha at *
 refine AM.callI_of (allocW T0 R0.K k) ?_
 rintro v h2 ⟨ws2,lv2,f2,K2,A2⟩
 have A2':=A2.toF
 have f2':=f2.wide (G:=p.F++[t,so,oo]) (G':=p.F++[t,so,oo]) (fun j hj=>List.mem_append_left _ hj) (fun j hj=>.inr hj) (fun j hj=>by have:=flt j hj;omega)
 have F2:=fA.trans f2'
 have hn:=f2.n
 have gc:h2.get h.n=.cells 0 false [.int .i64 0,.int .i64 0,.int .i64 0]:=(f2.get _ (by omega) (fun hm=>by have:=R.K.R.lt _ hm;omega)).trans ga
 have lc:h.n<h2.n:=by omega
 have bad:∀ e:Int,e≠0→v=.tup [.int .i64 0,.int .i64 e]→ws2=ws→Q (.tup [.agg (encT zSp),.int .i64 e]) (h2.set h.n (.cells 0 false (encT zSp))):=fun e he hv hw=>by
  subst hQ
  refine ⟨ws2,lv2,L,F2.setTmp (Nat.le_refl _) _,?_,v,A2',.inl ⟨e,he,hv,rfl,rfl⟩⟩
  have dd:∀ j,j∈[t,so,oo]→j ∉ p.F:=fun j hj=>by simp at hj;rcases hj with rfl | rfl | rfl<;>assumption
  obtain ⟨ow,o1,o2,o3⟩:=R0.ow
  have R2:TabP h2 t so oo p n ws2 lv2 L:=⟨K2,by rw [hw];exact R.I,(f2.get t (by omega) n1).trans R0.obj,(f2.get so (by omega) n2).trans R0.sp,⟨ow,o1,(f2.get oo (by omega) n3).trans o2,o3⟩,⟨by omega,by omega,by omega⟩,R.ne,R.nF⟩
  have f3:=(HFrame.refl (h:=h2) (F:=[h.n]) (by simpa using lc))
  exact R2.keepD (HFrame.set h2 h.n (.cells 0 false (encT zSp)) (F:=[h.n]) (by simp) (by simpa using lc)) (fun j hj hm=>by simp at hm;have:=flt j hj;omega)
 rcases A2 with ⟨c1,c2,rfl⟩ | ⟨c1,c3,c2,rfl⟩ | ⟨c1,a,c2,c3,rfl⟩
 ·simp -implicitDefEqProofs (disch:=first|exact dz _|fail) only [↓AM.R0,AM.R1,AM.R2,reduceAdd,reduceLeDiff,reduceEqDiff,reduceToNat,Nat.reduceLT,↓reduceIte,reduceEq,Int.reduceLT,reduceLE,gc,res_ct,retT_some]
  exact bad 1 (by decide) rfl c2
 ·simp -implicitDefEqProofs (disch:=first|exact dz _|fail) only [↓AM.R0,AM.R1,AM.R2,reduceAdd,reduceLeDiff,reduceEqDiff,reduceToNat,Nat.reduceLT,↓reduceIte,reduceEq,Int.reduceLT,reduceLE,gc,res_ct,retT_some]
  exact bad 3 (by decide) rfl c2
 ·clear bad
  obtain ⟨k,rfl⟩:∃ x:Nat,k=x:=⟨k.toNat,by omega⟩
  rw [Int.toNat_natCast] at c2 c3
  have hk1:1≤k:=by omega
  have hlt:a+k≤n:=by
   rcases Nat.lt_or_ge n (a+k) with q | q
   ·have h1:=c2.1 (k-1) (by omega)
    rw [R.K.out _ (by omega)] at h1;cases h1
   ·exact q
  have hfree:∀ q,a≤q→q<a+k→fw ws q=true:=fun q q1 q2=>by have:=c2.1 (q-a) (by omega);rwa [show a+(q-a)=q by omega] at this
  have J:SInv n (fw ws2) (insF L ⟨a,k,tag⟩):=R.I.ins (s:=⟨a,k,tag⟩) hk1 hlt hfree c3
  have hat:=J.at_ins (f:=fw ws)
  have q1:=(f2.get t (by omega) n1).trans R0.obj
  have q2:=(f2.get so (by omega) n2).trans R0.sp
  obtain ⟨ow,o1,o2,o3⟩:=R0.ow
  have q3:=(f2.get oo (by omega) n3).trans o2
  have fB:=(F2.pushTmp (.cells 0 false [.int .i64 0,.int .i64 0,.int .i64 0])).setTmp (i:=h2.n) (by omega) (.cells 0 false (encT ⟨a,k,tag⟩))
  have fb:=((HFrame.refl (h:=h2) (F:=[]) (by simp)).pushTmp (.cells 0 false [.int .i64 0,.int .i64 0,.int .i64 0])).setTmp (i:=h2.n) (Nat.le_refl _) (.cells 0 false (encT ⟨a,k,tag⟩))
  have gB:((h2.push (.cells 0 false [.int .i64 0,.int .i64 0,.int .i64 0])).set h2.n (.cells 0 false (encT ⟨a,k,tag⟩))).get h2.n=.cells 0 false (encT ⟨a,k,tag⟩):=AHeap.get_set_same _ _ _
  have nB:((h2.push (.cells 0 false [.int .i64 0,.int .i64 0,.int .i64 0])).set h2.n (.cells 0 false (encT ⟨a,k,tag⟩))).n=h2.n+1:=by simp
  simp only [encT] at fB fb gB nB
  have K3:=K2.keep fb
  have r1:=(fb.get t (by omega) (by simp)).trans q1
  have r2:=(fb.get so (by omega) (by simp)).trans q2
  have r3:=(fb.get oo (by omega) (by simp)).trans q3
  have rc:=(fb.get h.n lc (by simp)).trans gc
  have lt3:t<((h2.push (.cells 0 false [.int .i64 0,.int .i64 0,.int .i64 0])).set h2.n (.cells 0 false [.int .i64 (a:Int),.int .i64 (k:Int),.int .i64 tag])).n:=by omega
  have ls3:so<((h2.push (.cells 0 false [.int .i64 0,.int .i64 0,.int .i64 0])).set h2.n (.cells 0 false [.int .i64 (a:Int),.int .i64 (k:Int),.int .i64 tag])).n:=by omega
  have lb3:h2.n<((h2.push (.cells 0 false [.int .i64 0,.int .i64 0,.int .i64 0])).set h2.n (.cells 0 false [.int .i64 (a:Int),.int .i64 (k:Int),.int .i64 tag])).n:=by omega
  have x3:=ix3 (len:=n) r2 (i:=a) (by omega)
  have hfs:=fl_spV (L:=L) (L':=insF L ⟨a,k,tag⟩) (s:=⟨a,k,tag⟩) (n:=n) (a:=a) (by omega) hat
  simp only [encT] at hfs
  have xl:a*3+3≤(spV L n).length:=by rw [sp_len];omega
  simp -implicitDefEqProofs (disch:=first|exact dz _|fail) only [↓AM.R0,AM.R1,AM.R2,reduceAdd,reduceLeDiff,reduceEqDiff,reduceToNat,Nat.reduceLT,↓reduceIte,reduceEq,Int.reduceLT,reduceLE,q1,q2,x3,hfs,xl]
  generalize (h2.push (.cells 0 false [.int .i64 0,.int .i64 0,.int .i64 0])).set h2.n (.cells 0 false [.int .i64 (a:Int),.int .i64 (k:Int),.int .i64 tag])=h3 at *
  have fC:=(fB.trans (HFrame.set h3 so (.cells 0 false (spV (insF L ⟨a,k,tag⟩) n)) (F:=p.F++[t,so,oo]) (by simp) fB.lt))
  have fc:=HFrame.set h3 so (.cells 0 false (spV (insF L ⟨a,k,tag⟩) n)) (F:=[so]) (by simp) (by simpa using ls3)
  have K4:=K3.keepD fc (fun j hj hm=>by simp at hm;subst hm;exact n2 hj)
  have t1:=(fc.get t (by omega) (by simpa using e1)).trans r1
  have t2:=AHeap.get_set_same h3 so (.cells 0 false (spV (insF L ⟨a,k,tag⟩) n))
  have t3:=(fc.get oo (by omega) (by simpa using Ne.symm e3)).trans r3
  have tc:=(fc.get h.n (by omega) (by simp;omega)).trans rc
  have tb:=(fc.get h2.n (by omega) (by simp;omega)).trans gB
  have n4:(h3.set so (.cells 0 false (spV (insF L ⟨a,k,tag⟩) n))).n=h3.n:=by simp
  generalize h3.set so (.cells 0 false (spV (insF L ⟨a,k,tag⟩) n))=h4 at *
  refine AM.loopI_of (fun m e h'=>∃ (i:Nat) (ow':List Nat),m+i=k∧e.val 0=.ptr t 0 0∧e.val 6=.ptr h.n 0 0∧e.val 8=.int .i64 (a:Int)∧e.val 10=.ptr h2.n 0 0∧e.val 39=.int .i64 (k:Int)∧e.val 40=.int .i64 (i:Int)∧HFrame h h' (p.F++[t,so,oo]) (p.F++[t,so,oo])∧HFrame h4 h' [oo] [oo] ∧
   ow'.length=n∧h'.get oo=.cells 0 false (owV ow')∧(∀ q,a≤q→q<a+i→ow'[q]?=some a)∧(∀ q,¬ (a≤q∧q<a+i)→ow'[q]?=ow[q]?)) k ?_ ?_
  ·refine ⟨0,ow,by omega,?_,?_,?_,?_,?_,?_,fC,HFrame.refl (by simp;omega),o1,t3,fun q z1 z2=>by omega,fun q _=>rfl⟩<;>(simp -implicitDefEqProofs (disch:=first|exact dz _|fail) only [↓AM.R0,AM.R1,AM.R2,reduceAdd,reduceLeDiff,reduceEqDiff,reduceToNat,Nat.reduceLT,↓reduceIte,reduceEq,Int.reduceLT,reduceLE])<;>rfl
  ·rintro m e h' ⟨i,ow',hm,y0,y6,y8,y10,y39,y40,F5,f5,ol,og,oa,ob⟩
   have z1:=(f5.get t (by omega) (by simpa using e2)).trans t1
   have z2:=(f5.get so (by omega) (by simpa using e3)).trans t2
   have zc:=(f5.get h.n (by omega) (by simp;omega)).trans tc
   have zb:=(f5.get h2.n (by omega) (by simp;omega)).trans tb
   have hn5:=f5.n
   simp -implicitDefEqProofs (disch:=first|exact dz _|fail) only [↓AM.R0,AM.R1,AM.R2,reduceAdd,reduceLeDiff,reduceEqDiff,reduceToNat,Nat.reduceLT,↓reduceIte,reduceEq,Int.reduceLT,reduceLE,y39,y40]
   refine AM.cI_bool (fun hb=>?_) (fun hb=>?_)
   ·simp only [decide_eq_true_eq] at hb
    have w1:IntKind.i64.wrap ((a:Int)+(i:Int))=((a+i:Nat):Int):=(wrap64 (by omega) (by omega)).trans (by omega)
    have w2:IntKind.i64.wrap ((i:Int)+1)=((i+1:Nat):Int):=(wrap64 (by omega) (by omega)).trans (by omega)
    have x5:=ix1 (len:=n) og (i:=a+i) (by omega)
    have ul:(owV ow').length=n:=by unfold owV;rw [List.length_map,ol]
    have ul2:a+i+1≤(owV ow').length:=by omega
    have us:(owV ow').take (a+i)++[.int .i64 (a:Int)]++(owV ow').drop (a+i+1)=owV (ow'.set (a+i) a):=by
     have:owV (ow'.set (a+i) a)=(owV ow').set (a+i) (.int .i64 (a:Int)):=by unfold owV;rw [List.map_set]
     rw [this,List.set_eq_take_append_cons_drop,if_pos (by omega),List.append_assoc];rfl
    simp -implicitDefEqProofs (disch:=first|exact dz _|fail) only [↓AM.R0,AM.R1,AM.R2,reduceAdd,reduceLeDiff,reduceEqDiff,reduceToNat,Nat.reduceLT,↓reduceIte,reduceEq,Int.reduceLT,reduceLE,y0,y8,y40,z1,og,w1,w2,x5,ul2,us]
    refine ⟨m-1,by omega,i+1,ow'.set (a+i) a,by omega,y6,y10,y39,rfl,F5.trans (HFrame.set h' oo _ (by simp) F5.lt),f5.trans (HFrame.set h' oo _ (by simp) f5.lt),by rw [List.length_set,ol],rfl,fun q z1 z2=>?_,fun q z1=>?_⟩
    ·by_cases c:a+i=q
     ·subst c;rw [List.getElem?_set_self (by omega)]
     ·rw [List.getElem?_set_ne c];exact oa q z1 (by omega)
    ·rw [List.getElem?_set_ne (by omega)];exact ob q (by omega)
   ·simp only [decide_eq_false_iff_not] at hb
    obtain rfl:i=k:=by omega
    have lh5:h.n<h'.n:=by omega
    have lb5:h2.n<h'.n:=by omega
    simp -implicitDefEqProofs (disch:=first|exact dz _|fail) only [↓AM.R0,AM.R1,AM.R2,reduceAdd,reduceLeDiff,reduceEqDiff,reduceToNat,Nat.reduceLT,↓reduceIte,reduceEq,Int.reduceLT,reduceLE,y6,y10,zb,zc,res_ct,retT_some]
    subst hQ
    refine ⟨ws2,lv2,insF L ⟨a,i,tag⟩,F5.setTmp (Nat.le_refl _) _,?_,_,A2',.inr ⟨a,rfl,by omega,by rw [Int.toNat_natCast],by rw [Int.toNat_natCast];rfl⟩⟩
    have R5:TabP h' t so oo p n ws2 lv2 (insF L ⟨a,i,tag⟩):=⟨K4.keepD f5 (fun j hj hm=>by simp at hm;subst hm;exact n3 hj),J,z1,z2,⟨ow',ol,og,fun s hs q s1 s2=>?_⟩,⟨by omega,by omega,by omega⟩,R.ne,R.nF⟩
    ·exact R5.keepD (HFrame.set h' h.n _ (F:=[h.n]) (by simp) (by simpa using lh5)) (fun j hj hm=>by simp at hm;have:=flt j hj;omega)
    ·rcases mem_insF.1 hs with rfl | hs'
     ·exact oa q s1 s2
     ·rw [ob q ?_]
      ·exact o3 s hs' q s1 s2
      ·rintro ⟨q1,q2⟩
       have:=(R.I.cov q (by have:=R.I.c1 s hs';omega)).2 ⟨s,hs',s1,s2⟩
       rw [hfree q q1 q2] at this;cases this
end Go.Proofs.YthillgheddpmhaaDoor.Pg
namespace Go.Proofs.YthillgheddpmhaaDoor.Pg
open Go Go.AM Go.Proofs.YthillgheddpmhaaDoor.AmGJ
open Nat (reduceAdd reduceLeDiff reduceEqDiff)
open Int (reduceToNat reduceEq reduceLE)
def FreeS (f g:Nat→Bool) (L L':List Sp) (b:Int) (r:AVal):Prop :=
 (∃ s,s∈L∧(s.a:Int)=b∧(∀ q,g q=if s.a≤q∧q<s.a+s.k then true else f q)∧L'=remF L s.a∧r=.int .i64 0)∨((∀ s,s∈L→(s.a:Int)≠b)∧g=f∧L'=L∧r=.int .i64 4)
set_option maxHeartbeats 8000000 in
theorem freeS {h:AHeap} (T:TabR h) {t so oo:Nat} {p:PI} {n:Nat} {ws:List Nat} {lv:List (List Sm)} {L:List Sp} (R:TabP h t so oo p n ws lv L) (h0:0 ∉ p.F++[t,so,oo]) (b:Int) :
  CallP AP 33 [.ptr t 0 0,.int .i64 b] h fun r h'=>∃ ws' lv' L',HFrame h h' (p.F++[t,so,oo]) (p.F++[t,so,oo])∧TabP h' t so oo p n ws' lv' L'∧FreeS (fw ws) (fw ws') L L' b r:=by
 refine callP (rfl:Tr.get AP 33=some A33) ?_
 generalize hQ:(fun (r:AVal) (h':AHeap)=>_)=Q
 obtain ⟨l1,l2,l3⟩:=R.lt
 obtain ⟨e1,e2,e3⟩:=R.ne
 obtain ⟨n1,n2,n3⟩:=R.nF
 have hn2:=R.K.n2
 have flt:=R.flt
 simp -implicitDefEqProofs (disch:=first|exact dz _|fail) only [↓AM.R0,AM.R1,AM.R2,reduceAdd,reduceLeDiff,reduceEqDiff,reduceToNat,Nat.reduceLT,↓reduceIte,reduceEq,Int.reduceLT,reduceLE]
 refine AM.callI_of (findW R b) ?_
 rintro v h1 ⟨f1,rfl⟩
 have R1:=R.keep f1
 have T1:=T.frame f1 (by simp)
 have hn1:=f1.n
 have none:(∀ s,s∈L→(s.a:Int)≠b)→∀ h',HFrame h1 h' [] []→Q (.int .i64 4) h':=fun hno h' f=>by
  subst hQ
  exact ⟨ws,lv,L,(f1.trans f).wide (by simp) (fun j hj=>.inr hj) flt,R1.keep f,.inr ⟨hno,rfl,rfl,rfl⟩⟩
 have fP:∀ o:AObj,HFrame h1 ((h1.push (.cells 0 false [.int .i64 0,.int .i64 0,.int .i64 0])).set h1.n o) [] []:=fun o=>((HFrame.refl (h:=h1) (F:=[]) (by simp)).pushTmp _).setTmp (Nat.le_refl _) _
 cases hf:findF L b with
 | none =>
  simp -implicitDefEqProofs (disch:=first|exact dz _|fail) only [↓AM.R0,AM.R1,AM.R2,reduceAdd,reduceLeDiff,reduceEqDiff,reduceToNat,Nat.reduceLT,↓reduceIte,reduceEq,Int.reduceLT,reduceLE,encF,encT]
  refine none (fun s hs e=>?_) _ (fP _)
  rw [←e,R.I.find hs (Nat.le_refl _) (by have:=R.I.c1 s hs;omega)] at hf
  cases hf
 | some s =>
  obtain ⟨q,rfl,q1,q2,q3,q4,q5⟩:=findIn R hf
  by_cases hb:s.a=q
  rotate_left
  ·have db:decide ((s.a:Int)=(q:Int))=false:=decide_eq_false (by omega)
   simp -implicitDefEqProofs (disch:=first|exact dz _|fail) only [↓AM.R0,AM.R1,AM.R2,reduceAdd,reduceLeDiff,reduceEqDiff,reduceToNat,Nat.reduceLT,↓reduceIte,reduceEq,Int.reduceLT,reduceLE,encF,encT,db]
   refine none (fun s' hs e=>?_) _ (fP _)
   have:=R.I.find hs (q:=q) (by omega) (by have:=R.I.c1 s' hs;omega)
   rw [hf] at this
   simp only [Option.some.injEq] at this
   rw [this] at hb
   omega
  ·subst hb
   clear none
   have db:decide ((s.a:Int)=(s.a:Int))=true:=decide_eq_true rfl
   have hs1:=R.I.c1 s q2
   have g1:=R1.obj
   have g2:=R1.sp
   have fb:=fP (.cells 0 false (encT s))
   have nB:((h1.push (.cells 0 false [.int .i64 0,.int .i64 0,.int .i64 0])).set h1.n (.cells 0 false (encT s))).n=h1.n+1:=by simp
   have gB:((h1.push (.cells 0 false [.int .i64 0,.int .i64 0,.int .i64 0])).set h1.n (.cells 0 false (encT s))).get h1.n=.cells 0 false (encT s):=AHeap.get_set_same _ _ _
   simp only [encT] at fb nB gB
   have x3:=ix3 (H:=(h1.push (.cells 0 false [.int .i64 0,.int .i64 0,.int .i64 0])).set h1.n (.cells 0 false [.int .i64 (s.a:Int),.int .i64 (s.k:Int),.int .i64 s.t])) (j:=so) (g:=0) (len:=n) (i:=s.a) (vs:=spV L n) (ro:=false) (by rw [AHeap.get_set_ne _ _ (by omega),AHeap.get_push_ne _ _ (by omega)];exact g2) (by omega)
   have hat:∀ q,atL (remF L s.a) q=if q=s.a then zSp else atL L q:=fun q=>at_rem q
   have hfs:=fl_spV (L:=L) (L':=remF L s.a) (s:=zSp) (n:=n) (a:=s.a) (by omega) hat
   have z3:encT zSp=[.int .i64 0,.int .i64 0,.int .i64 0]:=rfl
   rw [z3] at hfs
   have xl:s.a*3+3≤(spV L n).length:=by rw [sp_len];omega
   have lt3:t<((h1.push (.cells 0 false [.int .i64 0,.int .i64 0,.int .i64 0])).set h1.n (.cells 0 false [.int .i64 (s.a:Int),.int .i64 (s.k:Int),.int .i64 s.t])).n:=by omega
   have ls3:so<((h1.push (.cells 0 false [.int .i64 0,.int .i64 0,.int .i64 0])).set h1.n (.cells 0 false [.int .i64 (s.a:Int),.int .i64 (s.k:Int),.int .i64 s.t])).n:=by omega
   simp -implicitDefEqProofs (disch:=first|exact dz _|fail) only [↓AM.R0,AM.R1,AM.R2,reduceAdd,reduceLeDiff,reduceEqDiff,reduceToNat,Nat.reduceLT,↓reduceIte,reduceEq,Int.reduceLT,reduceLE,encF,encT,g1,g2,x3,hfs,xl]
   have F1:=f1.wide (G:=p.F++[t,so,oo]) (G':=p.F++[t,so,oo]) (by simp) (fun j hj=>.inr hj) flt
   have fb':=fb.wide (G:=p.F++[t,so,oo]) (G':=p.F++[t,so,oo]) (by simp) (fun j hj=>.inr hj) F1.lt
   generalize (h1.push (.cells 0 false [.int .i64 0,.int .i64 0,.int .i64 0])).set h1.n (.cells 0 false [.int .i64 (s.a:Int),.int .i64 (s.k:Int),.int .i64 s.t])=h3 at *
   have R3:=R1.keep fb
   have fC:=(F1.trans fb').trans (HFrame.set h3 so (.cells 0 false (spV (remF L s.a) n)) (F:=p.F++[t,so,oo]) (by simp) fb'.lt)
   have fc:=HFrame.set h3 so (.cells 0 false (spV (remF L s.a) n)) (F:=[so]) (by simp) (by simpa using ls3)
   have K4:=R3.K.keepD fc (fun j hj hm=>by simp at hm;subst hm;exact n2 hj)
   have t1:=(fc.get t (by omega) (by simpa using e1)).trans R3.obj
   have t2:=AHeap.get_set_same h3 so (.cells 0 false (spV (remF L s.a) n))
   obtain ⟨ow,o1,o2,o3⟩:=R3.ow
   have t3:=(fc.get oo (by omega) (by simpa using Ne.symm e3)).trans o2
   have n4:(h3.set so (.cells 0 false (spV (remF L s.a) n))).n=h3.n:=by simp
   have T4:=T.frame fC h0
   generalize h3.set so (.cells 0 false (spV (remF L s.a) n))=h4 at *
   have hused:∀ q,s.a≤q→q<s.a+s.k→fw ws q=false:=fun q z1 z2=>(R.I.cov q (by omega)).2 ⟨s,q2,z1,z2⟩
   refine AM.trCall_of (freeW T4 K4 (s.a:Int) (s.k:Int)) ?_
   rintro v h5 ⟨ws5,lv5,f5,K5,A5⟩
   obtain ⟨d5,rfl⟩:=A5.yes hs1.1 hs1.2 hused
   have hn5:=f5.n
   simp -implicitDefEqProofs (disch:=first|exact dz _|fail) only [↓AM.R0,AM.R1,AM.R2,reduceAdd,reduceLeDiff,reduceEqDiff,reduceToNat,Nat.reduceLT,↓reduceIte,reduceEq,Int.reduceLT,reduceLE]
   subst hQ
   refine ⟨ws5,lv5,remF L s.a,fC.trans (f5.wide (fun j hj=>List.mem_append_left _ hj) (fun j hj=>.inr hj) fC.lt),?_,.inl ⟨s,q2,rfl,d5,rfl,rfl⟩⟩
   exact ⟨K5,R.I.rem q2 d5,(f5.get t (by omega) n1).trans t1,(f5.get so (by omega) n2).trans t2,⟨ow,o1,(f5.get oo (by omega) n3).trans t3,fun s' hs'=>o3 s' (mem_remF.1 hs').1⟩,⟨by omega,by omega,by omega⟩,R.ne,R.nF⟩
end Go.Proofs.YthillgheddpmhaaDoor.Pg
namespace Go.Proofs.YthillgheddpmhaaDoor.Pg
open Go Go.AM Go.Proofs.YthillgheddpmhaaDoor.AmGJ
open Nat (reduceAdd reduceLeDiff reduceEqDiff)
open Int (reduceToNat reduceEq reduceLE)
theorem zero3:∀ k:Nat,(List.range (k*3)).map (fun i=>[AVal.int .i64 0,AVal.int .i64 0,AVal.int .i64 0].getD (i%3) .undef)=spV [] k
 | 0=>rfl
 | k+1=>by
  rw [spV,List.range_succ,List.flatMap_append,←spV,←zero3 k,Nat.succ_mul,List.range_add,List.map_append]
  congr 1
  rw [List.map_map]
  have:∀ i:Nat,(k*3+i)%3=i%3:=fun i=>by omega
  simp [this,List.range_succ,encT,atL,zSp]
theorem ms3 {h:AHeap} {k:Nat} (hk:k≤1000000):msV h 3 24 [.int .i64 0,.int .i64 0,.int .i64 0] (.int .i64 (k:Int))=some (.sl h.n 0 0 k 3,h.push (.cells 0 false (spV [] k))):=by
 unfold msV
 simp only [Int.toNat_natCast]
 rw [if_pos ⟨by omega,by omega,by omega⟩,zero3]
theorem zeroI:∀ k:Nat,(List.range (k*1)).map (fun i=>[AVal.int .i64 0].getD (i%1) .undef)=owV (List.replicate k 0)
 | 0=>rfl
 | k+1=>by
  unfold owV at *
  rw [List.replicate_succ',List.map_append,←owV,←zeroI k,Nat.succ_mul,List.range_add,List.map_append]
  congr 1
  simp [Nat.mod_one]
theorem msI {h:AHeap} {k:Nat} (hk:k≤1000000):msV h 1 8 [.int .i64 0] (.int .i64 (k:Int))=some (.sl h.n 0 0 k 1,h.push (.cells 0 false (owV (List.replicate k 0)))):=by
 unfold msV
 simp only [Int.toNat_natCast]
 rw [if_pos ⟨by omega,by omega,by omega⟩,zeroI]
theorem SInv.nil {n:Nat} {f:Nat→Bool} (hf:∀ q,q<n→f q=true):SInv n f [] :=
 ⟨fun s h=>by simp at h,fun q hq=>by rw [hf q hq];simp,List.Pairwise.nil⟩
set_option maxHeartbeats 4000000 in
theorem newS {h:AHeap} (T:TabR h) (n:Int):CallP AP 30 [.int .i64 n] h fun r h'=>(¬ (1≤n∧n≤4096)∧HFrame h h' [] []∧r=.tup [.nilp,.int .i64 1]) ∨
  (1≤n∧n≤4096∧∃ t so oo p ws lv,HFrame h h' [] (p.F++[t,so,oo])∧TabP h' t so oo p n.toNat ws lv []∧(∀ q,fw ws q=decide (q<n.toNat))∧r=.tup [.ptr t 0 0,.int .i64 0]):=by
 refine callP (rfl:Tr.get AP 30=some A30) ?_
 generalize hQ:(fun (r:AVal) (h':AHeap)=>_)=Q
 simp -implicitDefEqProofs (disch:=first|exact dz _|fail) only [↓AM.R0,AM.R1,AM.R2,reduceAdd,reduceLeDiff,reduceEqDiff,reduceToNat,Nat.reduceLT,↓reduceIte,reduceEq,Int.reduceLT,reduceLE]
 refine AM.callI_of (newW T n) ?_
 rintro v h1 (⟨c,f1,rfl⟩ | ⟨n1,n2,p,ws,lv,f1,K,hf,rfl⟩)
 ·simp -implicitDefEqProofs (disch:=first|exact dz _|fail) only [↓AM.R0,AM.R1,AM.R2,reduceAdd,reduceLeDiff,reduceEqDiff,reduceToNat,Nat.reduceLT,↓reduceIte,reduceEq,Int.reduceLT,reduceLE]
  subst hQ
  exact .inl ⟨c,f1,rfl⟩
 ·obtain ⟨n,rfl⟩:∃ a:Nat,n=a:=⟨n.toNat,by omega⟩
  rw [Int.toNat_natCast] at K hf
  have m3:=ms3 (h:=h1) (k:=n) (by omega)
  have mI:=msI (h:=h1.push (.cells 0 false (spV [] n))) (k:=n) (by omega)
  have fA:=HFrame.push h1 (.cells 0 false (spV [] n)) K.R.lt
  have fB:=fA.trans (HFrame.push (h1.push (.cells 0 false (spV [] n))) (.cells 0 false (owV (List.replicate n 0))) fA.lt)
  simp -implicitDefEqProofs (disch:=first|exact dz _|fail) only [↓AM.R0,AM.R1,AM.R2,reduceAdd,reduceLeDiff,reduceEqDiff,reduceToNat,Nat.reduceLT,↓reduceIte,reduceEq,Int.reduceLT,reduceLE,m3,mI]
  subst hQ
  refine .inr ⟨by omega,by omega,h1.n+2,h1.n,h1.n+1,p,ws,lv,?_,?_,by rw [Int.toNat_natCast];exact hf,rfl⟩
  ·refine ⟨?_,?_,fun j hj _=>?_,fun j hj=>.inr ?_,fun j hj=>?_⟩
   ·have:=f1.n;simp;omega
   ·exact f1.g
   ·have:=f1.n
    rw [AHeap.get_push_ne _ _ (by simp;omega),AHeap.get_push_ne _ _ (by simp;omega),AHeap.get_push_ne _ _ (by omega)];exact f1.get j hj (by simp)
   ·have:=f1.n
    simp only [List.mem_append,List.mem_cons,List.not_mem_nil,or_false] at hj
    rcases hj with hj | rfl | rfl | rfl
    ·rcases f1.new j hj with e | e
     ·simp at e
     ·exact e
    ·omega
    ·omega
    ·omega
   ·simp only [List.mem_append,List.mem_cons,List.not_mem_nil,or_false] at hj
    rcases hj with hj | rfl | rfl | rfl
    ·have:=K.R.lt j hj;simp;omega
    ·simp
    ·simp;omega
    ·simp
  ·rw [Int.toNat_natCast]
   have nF:∀ j,h1.n≤j→j ∉ p.F:=fun j hj hm=>by have:=K.R.lt j hm;omega
   have fq:=(((HFrame.refl (h:=h1) (F:=[]) (by simp)).pushTmp (.cells 0 false (spV [] n))).pushTmp (.cells 0 false (owV (List.replicate n 0)))).pushTmp (.cells 0 false [.ptr p.id 0 0,.sl h1.n 0 0 n 3,.sl (h1.n+1) 0 0 n 1])
   refine ⟨K.keep fq,SInv.nil fun q hq=>by rw [hf];exact decide_eq_true hq,?_,?_,⟨List.replicate n 0,by simp,?_,fun s hs=>by simp at hs⟩,⟨by simp,by simp;omega,by simp⟩,⟨by omega,by omega,by omega⟩,⟨nF _ (by omega),nF _ (by omega),nF _ (by omega)⟩⟩
   ·have:((h1.push (.cells 0 false (spV [] n))).push (.cells 0 false (owV (List.replicate n 0)))).n=h1.n+2:=by simp
    rw [←this,AHeap.get_push_same]
   ·rw [AHeap.get_push_ne _ _ (by simp;omega),AHeap.get_push_ne _ _ (by simp),AHeap.get_push_same]
   ·have:(h1.push (.cells 0 false (spV [] n))).n=h1.n+1:=by simp
    rw [AHeap.get_push_ne _ _ (by simp),←this,AHeap.get_push_same]
set_option maxHeartbeats 2000000 in
theorem countsS {h:AHeap} {t so oo:Nat} {p:PI} {n:Nat} {ws:List Nat} {lv:List (List Sm)} {L:List Sp} (R:TabP h t so oo p n ws lv L):CallP AP 41 [.ptr t 0 0] h fun r h'=>HFrame h h' [] []∧∃ m,IsMost (fw ws) m ∧
  r=.tup [.int .i64 (freeN (fw ws) n:Nat),.int .i64 (m:Int)]:=by
 refine callP (rfl:Tr.get AP 41=some A41) ?_
 generalize hQ:(fun (r:AVal) (h':AHeap)=>_)=Q
 have g1:=R.obj
 obtain ⟨l1,l2,l3⟩:=R.lt
 simp -implicitDefEqProofs (disch:=first|exact dz _|fail) only [↓AM.R0,AM.R1,AM.R2,reduceAdd,reduceLeDiff,reduceEqDiff,reduceToNat,Nat.reduceLT,↓reduceIte,reduceEq,Int.reduceLT,reduceLE,g1]
 refine AM.callI_of (countsW R.K) ?_
 rintro v h7 ⟨f7,x,V,rfl⟩
 have z1:sumR (rowsF (fw ws) n n 0)=freeN (fw ws) n:=by have:=sum_free R.K.out n 0 (by omega);rw [←this];rfl
 simp -implicitDefEqProofs (disch:=first|exact dz _|fail) only [↓AM.R0,AM.R1,AM.R2,reduceAdd,reduceLeDiff,reduceEqDiff,reduceToNat,Nat.reduceLT,↓reduceIte,reduceEq,Int.reduceLT,reduceLE]
 subst hQ
 exact ⟨f7,x.m,V.most (fun q hq=>R.K.out q (by have:=R.K.wl;omega)),by rw [z1]⟩
end Go.Proofs.YthillgheddpmhaaDoor.Pg
namespace Go.Proofs.YthillgheddpmhaaDoor.Pg
open Go Go.AM Go.Proofs.YthillgheddpmhaaDoor.AmGJ
open Nat (reduceAdd reduceLeDiff reduceEqDiff)
open Int (reduceToNat reduceEq reduceLE)
theorem allS {h:AHeap} {t:Nat}:CallP AP 64 [.ptr t 0 0] h fun r h'=>h'=h.push (.cells 0 false [.ptr t 0 0])∧r=.fn (.func 85) [] [.ptr h.n 0 0]:=by
 refine callP (rfl:Tr.get AP 64=some A64) ?_
 generalize hQ:(fun (r:AVal) (h':AHeap)=>_)=Q
 simp -implicitDefEqProofs (disch:=first|exact dz _|fail) only [↓AM.R0,AM.R1,AM.R2,reduceAdd,reduceLeDiff,reduceEqDiff,reduceToNat,Nat.reduceLT,↓reduceIte,reduceEq,Int.reduceLT,reduceLE]
 subst hQ
 exact ⟨rfl,rfl⟩
theorem srt_len {n:Nat}:∀ (L:List Sp) (x:Nat),L.Pairwise (fun s t=>s.a+s.k≤t.a)→(∀ s,s∈L→1≤s.k∧s.a+s.k≤n∧x≤s.a)→L=[]∨L.length+x≤n
 | [],_,_,_=>.inl rfl
 | s::l,x,hp,hs=>by
  right
  rw [List.pairwise_cons] at hp
  obtain ⟨h1,h2,h3⟩:=hs s List.mem_cons_self
  rcases srt_len l (s.a+s.k) hp.2 (fun t ht=>⟨(hs t (List.mem_cons_of_mem _ ht)).1,(hs t (List.mem_cons_of_mem _ ht)).2.1,hp.1 t ht⟩) with rfl | q
  ·simp;omega
  ·simp;omega
theorem SInv.len {n:Nat} {f:Nat→Bool} {L:List Sp} (I:SInv n f L):L.length≤n:=by
 rcases srt_len (n:=n) L 0 I.srt (fun s hs=>⟨(I.c1 s hs).1,(I.c1 s hs).2,by omega⟩) with rfl | q
 ·simp
 ·omega
end Go.Proofs.YthillgheddpmhaaDoor.Pg
namespace Go.Proofs.YthillgheddpmhaaDoor.Pg
open Go Go.AM Go.Proofs.YthillgheddpmhaaDoor.AmGJ
open Nat (reduceAdd reduceLeDiff reduceEqDiff)
open Int (reduceToNat reduceEq reduceLE)
theorem AllocS.here {f g:Nat→Bool} {L L':List Sp} {k:Nat} {tag:Int} {r:AVal} (R:AllocS f g L L' (k:Int) tag r) (k1:1≤k) {p:Nat} (rp:Row f p k):∃ a:Nat,FirstAt f k a∧(∀ q:Nat,g q=if a≤q∧q<a+k then false else f q)∧L'=insF L ⟨a,k,tag⟩∧r=.tup [.agg (encT ⟨a,k,tag⟩),.int .i64 0]:=by
 obtain ⟨v,A,B⟩:=R
 rcases A with ⟨h1,_⟩ | ⟨_,h2,_⟩ | ⟨_,a,h3,h4,h5⟩
 ·omega
 ·rw [Int.toNat_natCast] at h2
  exact absurd rp (h2 p)
 ·rw [Int.toNat_natCast] at h3 h4
  rcases B with ⟨e,b1,b2,b3,b4⟩ | ⟨x,b1,b2,b3,b4⟩
  ·rw [h5] at b2;simp at b2;omega
  ·rw [h5] at b1;simp at b1
   rw [Int.toNat_natCast] at b3 b4
   have hx:x=a:=by omega
   subst hx
   exact ⟨x,h3,h4,b3,b4⟩
theorem FreeS.yes {n:Nat} {f g:Nat→Bool} {L L':List Sp} {r:AVal} (I:SInv n f L) {s:Sp} (hs:s∈L) (R:FreeS f g L L' (s.a:Int) r):(∀ q,g q=if s.a≤q∧q<s.a+s.k then true else f q)∧L'=remF L s.a∧r=.int .i64 0:=by
 rcases R with ⟨s',a1,a2,a3,a4,a5⟩ | ⟨b1,_⟩
 ·have:=I.same a1 hs (by omega)
  subst this
  exact ⟨a3,a4,a5⟩
 ·exact absurd rfl (b1 s hs)
theorem FreeS.no {f g:Nat→Bool} {L L':List Sp} {b:Int} {r:AVal} (h:∀ s,s∈L→(s.a:Int)≠b) (R:FreeS f g L L' b r):g=f∧L'=L∧r=.int .i64 4:=by
 rcases R with ⟨s',a1,a2,a3,a4,a5⟩ | ⟨b1,b2⟩
 ·exact absurd a2 (h s' a1)
 ·exact b2
end Go.Proofs.YthillgheddpmhaaDoor.Pg
namespace Go.Proofs.YthillgheddpmhaaDoor.Pg
open Go Go.AM Go.Proofs.YthillgheddpmhaaDoor.AmGJ
open Nat (reduceAdd reduceLeDiff reduceEqDiff)
open Int (reduceToNat reduceEq reduceLE)
structure RTab (h:AHeap) (u r b n:Nat) (f:Nat→Bool) (L:List Sp) (v:AVal) (G:List Nat):Prop where
 R:RefR h r b n f
 I:SInv n f L
 obj:h.get u=.cells 0 false [.ptr r 0 0,v]
 so:SlOf h 3 encT v L G
 lu:u<h.n
 ne:u≠r∧u≠b
 nG:u ∉ G∧r ∉ G∧b ∉ G
def RTab.F (u r b:Nat) (G:List Nat):List Nat:=[u,r,b]++G
theorem RTab.flt {h:AHeap} {u r b n:Nat} {f:Nat→Bool} {L:List Sp} {v:AVal} {G:List Nat} (R:RTab h u r b n f L v G):∀ j,j∈[u,r,b]++G→j<h.n:=fun j hj=>by
 simp only [List.mem_append,List.mem_cons,List.not_mem_nil,or_false] at hj
 rcases hj with (rfl | rfl | rfl) | h
 ·exact R.lu
 ·exact R.R.lr
 ·exact R.R.lb
 ·exact R.so.lt j h
theorem RTab.keepD {h h':AHeap} {A A':List Nat} {u r b n:Nat} {f:Nat→Bool} {L:List Sp} {v:AVal} {G:List Nat} (R:RTab h u r b n f L v G) (F:HFrame h h' A A') (d:∀ j,j∈[u,r,b]++G→j ∉ A):RTab h' u r b n f L v G :=
 ⟨R.R.keepD F (d r (by simp)) (d b (by simp)),R.I,(F.get u R.lu (d u (by simp))).trans R.obj,R.so.frame F.n fun j hj=>F.get j (R.so.lt j hj) (d j (List.mem_append_right _ hj)),Nat.lt_of_lt_of_le R.lu F.n,R.ne,R.nG⟩
theorem RTab.keep {h h':AHeap} {A:List Nat} {u r b n:Nat} {f:Nat→Bool} {L:List Sp} {v:AVal} {G:List Nat} (R:RTab h u r b n f L v G) (F:HFrame h h' [] A):RTab h' u r b n f L v G:=R.keepD F (by simp)
set_option maxHeartbeats 2000000 in
theorem rsNew {h:AHeap} (n:Int):CallP AP 37 [.int .i64 n] h fun w h'=>(¬ (1≤n∧n≤4096)∧HFrame h h' [] []∧w=.tup [.nilp,.int .i64 1]) ∨
  (1≤n∧n≤4096∧∃ u r b,HFrame h h' [] [u,r,b]∧RTab h' u r b n.toNat (fun q=>decide (q<n.toNat)) [] .nils []∧w=.tup [.ptr u 0 0,.int .i64 0]):=by
 refine callP (rfl:Tr.get AP 37=some A37) ?_
 generalize hQ:(fun (r:AVal) (h':AHeap)=>_)=Q
 simp -implicitDefEqProofs (disch:=first|exact dz _|fail) only [↓AM.R0,AM.R1,AM.R2,reduceAdd,reduceLeDiff,reduceEqDiff,reduceToNat,Nat.reduceLT,↓reduceIte,reduceEq,Int.reduceLT,reduceLE]
 refine AM.callI_of (rNew n) ?_
 rintro v h1 (⟨c,f1,rfl⟩ | ⟨n1,n2,r,b,f1,R,rfl⟩)
 ·simp -implicitDefEqProofs (disch:=first|exact dz _|fail) only [↓AM.R0,AM.R1,AM.R2,reduceAdd,reduceLeDiff,reduceEqDiff,reduceToNat,Nat.reduceLT,↓reduceIte,reduceEq,Int.reduceLT,reduceLE]
  subst hQ
  exact .inl ⟨c,f1,rfl⟩
 ·simp -implicitDefEqProofs (disch:=first|exact dz _|fail) only [↓AM.R0,AM.R1,AM.R2,reduceAdd,reduceLeDiff,reduceEqDiff,reduceToNat,Nat.reduceLT,↓reduceIte,reduceEq,Int.reduceLT,reduceLE]
  subst hQ
  have fq:=(HFrame.refl (h:=h1) (F:=[]) (by simp)).pushTmp (.cells 0 false [.ptr r 0 0,.nils])
  have lr:=R.lr
  have lb:=R.lb
  have hn:=f1.n
  refine .inr ⟨n1,n2,h1.n,r,b,?_,⟨R.keepD fq (by simp) (by simp),SInv.nil fun q hq=>decide_eq_true hq,AHeap.get_push_same _ _,SlOf.nil,by simp,⟨by omega,by omega⟩,by simp⟩,rfl⟩
  refine ⟨by simp;omega,f1.g,fun j hj _=>?_,fun j hj=>.inr ?_,fun j hj=>?_⟩
  ·rw [AHeap.get_push_ne _ _ (by omega)];exact f1.get j hj (by simp)
  ·simp only [List.mem_cons,List.not_mem_nil,or_false] at hj
   rcases hj with rfl | rfl | rfl
   ·exact hn
   ·rcases f1.new j (by simp) with e | e
    ·simp at e
    ·exact e
   ·rcases f1.new j (by simp) with e | e
    ·simp at e
    ·exact e
  ·simp only [List.mem_cons,List.not_mem_nil,or_false] at hj
   rcases hj with rfl | rfl | rfl
   ·simp
   ·simp;omega
   ·simp;omega
set_option maxHeartbeats 4000000 in
theorem rsFind {h:AHeap} {u r b n:Nat} {f:Nat→Bool} {L:List Sp} {v:AVal} {G:List Nat} (R:RTab h u r b n f L v G) (x:Int) (hx:-9223372036854775808≤x∧x≤9223372036854775807):CallP AP 40 [.ptr u 0 0,.int .i64 x] h fun w h'=>HFrame h h' [] []∧w=encF (findF L x):=by
 refine callP (rfl:Tr.get AP 40=some A40) ?_
 generalize hQ:(fun (r:AVal) (h':AHeap)=>_)=Q
 have hn2:=R.R.n2
 have hLn:=R.I.len
 simp -implicitDefEqProofs (disch:=first|exact dz _|fail) only [↓AM.R0,AM.R1,AM.R2,reduceAdd,reduceLeDiff,reduceEqDiff,reduceToNat,Nat.reduceLT,↓reduceIte,reduceEq,Int.reduceLT,reduceLE]
 have f0:=(HFrame.refl (h:=h) (F:=[]) (by simp)).pushTmp (.cells 0 false [.int .i64 0,.int .i64 0,.int .i64 0])
 have g0:(h.push (.cells 0 false [.int .i64 0,.int .i64 0,.int .i64 0])).get h.n=.cells 0 false [.int .i64 0,.int .i64 0,.int .i64 0]:=AHeap.get_push_same _ _
 have n0:(h.push (.cells 0 false [.int .i64 0,.int .i64 0,.int .i64 0])).n=h.n+1:=by simp
 refine AM.loopI_of (fun k e h'=>∃ i:Nat,k+i=L.length∧e.val 0=.ptr u 0 0∧e.val 1=.int .i64 x∧e.val 4=.ptr h.n 0 0∧e.val 6=.int .i64 (i:Int)∧HFrame h h' [] []∧h.n<h'.n∧h'.get h.n=.cells 0 false [.int .i64 0,.int .i64 0,.int .i64 0]∧findF L x=findF (L.drop i) x) L.length ?_ ?_
 ·refine ⟨0,by omega,?_,?_,?_,?_,f0,by omega,g0,rfl⟩<;>(simp -implicitDefEqProofs (disch:=first|exact dz _|fail) only [↓AM.R0,AM.R1,AM.R2,reduceAdd,reduceLeDiff,reduceEqDiff,reduceToNat,Nat.reduceLT,↓reduceIte,reduceEq,Int.reduceLT,reduceLE])<;>rfl
 ·rintro k e h' ⟨i,hk,y0,y1,y4,y6,F,ln,g4,hf⟩
  have R':=R.keep F
  have g1:=R'.obj
  have lu:=R'.lu
  simp -implicitDefEqProofs (disch:=first|exact dz _|fail) only [↓AM.R0,AM.R1,AM.R2,reduceAdd,reduceLeDiff,reduceEqDiff,reduceToNat,Nat.reduceLT,↓reduceIte,reduceEq,Int.reduceLT,reduceLE,y0,y6,g1,R'.so.len]
  refine AM.cI_bool (fun hc=>?_) (fun hc=>?_)
  ·simp only [decide_eq_true_eq] at hc
   obtain ⟨s,hs⟩:∃ s,L[i]?=some s:=⟨_,List.getElem?_eq_getElem (by omega)⟩
   have hc1:=R.I.c1 s (List.mem_of_getElem? hs)
   obtain ⟨id,g,off,vs,ro,x1,x2,x3,x4,x5⟩:=R'.so.rd.ix (fun _=>rfl) hs .i64
   have hdrop:L.drop i=s::L.drop (i+1):=by
    rw [List.drop_eq_getElem_cons (by omega)]
    congr 1
    exact (List.getElem?_eq_some_iff.1 hs).2
   have hx4:off+3≤vs.length:=x4
   have fq:=((HFrame.refl (h:=h') (F:=[]) (by simp)).pushTmp (.cells 0 false [.int .i64 0,.int .i64 0,.int .i64 0])).setTmp (i:=h'.n) (Nat.le_refl _) (.cells 0 false (encT s))
   have F2:=F.trans fq
   have gq:((h'.push (.cells 0 false [.int .i64 0,.int .i64 0,.int .i64 0])).set h'.n (.cells 0 false (encT s))).get h.n=.cells 0 false [.int .i64 0,.int .i64 0,.int .i64 0]:=by rw [AHeap.get_set_ne _ _ (by omega),AHeap.get_push_ne _ _ (by omega),g4]
   have nq:((h'.push (.cells 0 false [.int .i64 0,.int .i64 0,.int .i64 0])).set h'.n (.cells 0 false (encT s))).n=h'.n+1:=by simp
   simp only [encT] at F2 gq nq
   have w1:IntKind.i64.wrap ((i:Int)+1)=((i+1:Nat):Int):=(wrap64 (by omega) (by omega)).trans (by omega)
   simp -implicitDefEqProofs (disch:=first|exact dz _|fail) only [↓AM.R0,AM.R1,AM.R2,reduceAdd,reduceLeDiff,reduceEqDiff,reduceToNat,Nat.reduceLT,↓reduceIte,reduceEq,Int.reduceLT,reduceLE,y0,y1,y6,g1,x1,x2,x4,x5,encT]
   rcases Int.lt_or_le x s.a with c | c
   ·have d1:decide ((s.a:Int)≤x)=false:=decide_eq_false (by omega)
    have hf2:findF (L.drop i) x=findF (L.drop (i+1)) x:=by
     rw [hdrop];unfold findF;rw [List.find?_cons,d1];rfl
    simp -implicitDefEqProofs (disch:=first|exact dz _|fail) only [↓AM.R0,AM.R1,AM.R2,reduceAdd,reduceLeDiff,reduceEqDiff,reduceToNat,Nat.reduceLT,↓reduceIte,reduceEq,Int.reduceLT,reduceLE,y1,d1,y6,w1]
    exact ⟨k-1,by omega,i+1,by omega,y0,y4,rfl,F2,by omega,g4,hf.trans hf2⟩
   ·have d1:decide ((s.a:Int)≤x)=true:=decide_eq_true c
    have w2:IntKind.i64.wrap (x-(s.a:Int))=x-(s.a:Int):=wrap64 (by omega) (by omega)
    rcases Int.lt_or_le (x-s.a) s.k with c2 | c2
    ·have d2:decide (x-(s.a:Int)<(s.k:Int))=true:=decide_eq_true c2
     have hf2:findF (L.drop i) x=some s:=by
      rw [hdrop];unfold findF;rw [List.find?_cons,d1,d2];rfl
     have lb:h.n<((h'.push (.cells 0 false [.int .i64 0,.int .i64 0,.int .i64 0])).set h'.n (.cells 0 false [.int .i64 (s.a:Int),.int .i64 (s.k:Int),.int .i64 s.t])).n:=by omega
     simp -implicitDefEqProofs (disch:=first|exact dz _|fail) only [↓AM.R0,AM.R1,AM.R2,reduceAdd,reduceLeDiff,reduceEqDiff,reduceToNat,Nat.reduceLT,↓reduceIte,reduceEq,Int.reduceLT,reduceLE,y1,d1,d2,w2,y4,g4,res_ct,retT_some]
     subst hQ
     rw [hf,hf2]
     exact ⟨F2.setTmp (Nat.le_refl _) _,rfl⟩
    ·have d2:decide (x-(s.a:Int)<(s.k:Int))=false:=decide_eq_false (by omega)
     have hf2:findF (L.drop i) x=findF (L.drop (i+1)) x:=by
      rw [hdrop];unfold findF;rw [List.find?_cons,d1,d2];rfl
     simp -implicitDefEqProofs (disch:=first|exact dz _|fail) only [↓AM.R0,AM.R1,AM.R2,reduceAdd,reduceLeDiff,reduceEqDiff,reduceToNat,Nat.reduceLT,↓reduceIte,reduceEq,Int.reduceLT,reduceLE,y1,d1,d2,w2,y6,w1]
     exact ⟨k-1,by omega,i+1,by omega,y0,y4,rfl,F2,by omega,g4,hf.trans hf2⟩
  ·simp only [decide_eq_false_iff_not] at hc
   have hz:findF L x=none:=by rw [hf,List.drop_of_length_le (by omega)];rfl
   simp -implicitDefEqProofs (disch:=first|exact dz _|fail) only [↓AM.R0,AM.R1,AM.R2,reduceAdd,reduceLeDiff,reduceEqDiff,reduceToNat,Nat.reduceLT,↓reduceIte,reduceEq,Int.reduceLT,reduceLE,y4,g4,res_ct,retT_some]
   subst hQ
   rw [hz]
   exact ⟨F.setTmp (Nat.le_refl _) _,rfl⟩
end Go.Proofs.YthillgheddpmhaaDoor.Pg
namespace Go.Proofs.YthillgheddpmhaaDoor.Pg
open Go Go.AM Go.Proofs.YthillgheddpmhaaDoor.AmGJ
open Nat (reduceAdd reduceLeDiff reduceEqDiff)
open Int (reduceToNat reduceEq reduceLE)
theorem insF_split:∀ {l1:List Sp} {s t:Sp} {l2:List Sp},(∀ x,x∈l1→x.a≤s.a)→s.a<t.a→insF (l1++t::l2) s=l1++s::t::l2
 | [],s,t,l2,_,h=>by rw [List.nil_append,insF,if_pos h];rfl
 | x::l,s,t,l2,h1,h=>by
  rw [List.cons_append,insF,if_neg (by have:=h1 x List.mem_cons_self;omega),insF_split (fun y hy=>h1 y (List.mem_cons_of_mem _ hy)) h];rfl
theorem insF_all:∀ {L:List Sp} {s:Sp},(∀ t,t∈L→t.a≤s.a)→insF L s=L++[s]
 | [],s,_=>rfl
 | t::l,s,h=>by
  rw [insF,if_neg (by have:=h t List.mem_cons_self;omega),insF_all fun x hx=>h x (List.mem_cons_of_mem _ hx)];rfl
theorem drop_cons {α:Type} {L:List α} {i:Nat} {s:α} (hs:L[i]?=some s):L.drop i=s::L.drop (i+1):=by
 obtain ⟨h1,h2⟩:=List.getElem?_eq_some_iff.1 hs
 rw [List.drop_eq_getElem_cons h1,h2]
theorem take_snoc {α:Type} {L:List α} {i:Nat} {s:α} (hs:L[i]?=some s):L.take (i+1)=L.take i++[s]:=by
 rw [List.take_add_one,hs];rfl
set_option maxHeartbeats 8000000 in
theorem rsFree {h:AHeap} {u r b n:Nat} {f:Nat→Bool} {L:List Sp} {v:AVal} {G:List Nat} (R:RTab h u r b n f L v G) (x:Int):CallP AP 39 [.ptr u 0 0,.int .i64 x] h fun w h'=>∃ g L' v' G',HFrame h h' ([u,r,b]++G) ([u,r,b]++G')∧RTab h' u r b n g L' v' G'∧FreeS f g L L' x w:=by
 refine callP (rfl:Tr.get AP 39=some A39) ?_
 generalize hQ:(fun (r:AVal) (h':AHeap)=>_)=Q
 have hn2:=R.R.n2
 have hLn:=R.I.len
 have flt:=R.flt
 simp -implicitDefEqProofs (disch:=first|exact dz _|fail) only [↓AM.R0,AM.R1,AM.R2,reduceAdd,reduceLeDiff,reduceEqDiff,reduceToNat,Nat.reduceLT,↓reduceIte,reduceEq,Int.reduceLT,reduceLE]
 have f0:=((HFrame.refl (h:=h) (F:=[]) (by simp)).pushTmp (.cells 0 false [.int .i64 0,.int .i64 0,.int .i64 0])).setTmp (i:=h.n) (Nat.le_refl _) (.cells 0 false (encT zSp))
 have g0:((h.push (.cells 0 false [.int .i64 0,.int .i64 0,.int .i64 0])).set h.n (.cells 0 false (encT zSp))).get h.n=.cells 0 false (encT zSp):=AHeap.get_set_same _ _ _
 have n0:((h.push (.cells 0 false [.int .i64 0,.int .i64 0,.int .i64 0])).set h.n (.cells 0 false (encT zSp))).n=h.n+1:=by simp
 have ez:encT zSp=[.int .i64 0,.int .i64 0,.int .i64 0]:=rfl
 rw [ez] at f0 g0 n0
 have dne:∀ y:Int,decide (y≠x)=!decide (y=x):=fun y=>by simp
 refine AM.loopI_of (fun k e h'=>∃ (i:Nat) (sv:AVal) (H:List Nat) (z:Sp),k+i=L.length∧e.val 0=.ptr u 0 0∧e.val 1=.int .i64 x∧e.val 5=sv∧e.val 6=.ptr h.n 0 0∧e.val 7=.int .i64 (i:Int)∧HFrame h h' [] H∧h.n<h'.n∧h'.get h.n=.cells 0 false (encT z) ∧
  SlOf h' 3 encT sv ((L.take i).filter fun s=>decide ((s.a:Int)≠x)) H∧(∀ j,j∈H→h.n<j)∧((z=zSp∧∀ s,s∈L.take i→(s.a:Int)≠x)∨(z∈L∧(z.a:Int)=x))) L.length ?_ ?_
 ·refine ⟨0,.nils,[],zSp,by omega,?_,?_,?_,?_,?_,f0,by omega,g0,SlOf.nil,by simp,.inl ⟨rfl,fun s hs=>by simp at hs⟩⟩<;>(simp -implicitDefEqProofs (disch:=first|exact dz _|fail) only [↓AM.R0,AM.R1,AM.R2,reduceAdd,reduceLeDiff,reduceEqDiff,reduceToNat,Nat.reduceLT,↓reduceIte,reduceEq,Int.reduceLT,reduceLE])<;>rfl
 ·rintro k e h' ⟨i,sv,H,z,hk,y0,y1,y5,y6,y7,F,ln,g6,so,hH,hz⟩
  have R':=R.keep F
  have g1:=R'.obj
  have lu:=R'.lu
  simp -implicitDefEqProofs (disch:=first|exact dz _|fail) only [↓AM.R0,AM.R1,AM.R2,reduceAdd,reduceLeDiff,reduceEqDiff,reduceToNat,Nat.reduceLT,↓reduceIte,reduceEq,Int.reduceLT,reduceLE,y0,y7,g1,R'.so.len]
  refine AM.cI_bool (fun hc=>?_) (fun hc=>?_)
  ·simp only [decide_eq_true_eq] at hc
   obtain ⟨s,hs⟩:∃ s,L[i]?=some s:=⟨_,List.getElem?_eq_getElem (by omega)⟩
   have hmem:=List.mem_of_getElem? hs
   obtain ⟨id,g,off,vs,ro,x1,x2,x3,x4,x5⟩:=R'.so.rd.ix (fun _=>rfl) hs .i64
   have hx4:off+3≤vs.length:=x4
   have x0:vs[off]?=some (.int .i64 (s.a:Int)):=by
    have:((vs.drop off).take 3)[0]?=some (.int .i64 (s.a:Int)):=by rw [x5];rfl
    rwa [List.getElem?_take,if_pos (by decide),List.getElem?_drop,Nat.add_zero] at this
   have w1:IntKind.i64.wrap ((i:Int)+1)=((i+1:Nat):Int):=(wrap64 (by omega) (by omega)).trans (by omega)
   simp -implicitDefEqProofs (disch:=first|exact dz _|fail) only [↓AM.R0,AM.R1,AM.R2,reduceAdd,reduceLeDiff,reduceEqDiff,reduceToNat,Nat.reduceLT,↓reduceIte,reduceEq,Int.reduceLT,reduceLE,y0,y1,y7,g1,x1,x2,x0]
   refine AM.cI_bool (fun hd=>?_) (fun hd=>?_)
   ·simp only [decide_eq_true_eq] at hd
    simp -implicitDefEqProofs (disch:=first|exact dz _|fail) only [↓AM.R0,AM.R1,AM.R2,reduceAdd,reduceLeDiff,reduceEqDiff,reduceToNat,Nat.reduceLT,↓reduceIte,reduceEq,Int.reduceLT,reduceLE,y0,y6,y7,g1,x1,x2,x4,x5,encT,g6,w1]
    refine ⟨k-1,by omega,i+1,sv,H,s,by omega,y1,y5,rfl,F.setTmp (Nat.le_refl _) _,ln,rfl,?_,hH,.inr ⟨hmem,hd⟩⟩
    rw [take_snoc hs,List.filter_append]
    have:List.filter (fun s:Sp=>decide ((s.a:Int)≠x)) [s]=[]:=by simp [hd]
    rw [this,List.append_nil]
    exact so.set (fun hm=>by have:=hH _ hm;omega) _
   ·simp only [decide_eq_false_iff_not] at hd
    simp -implicitDefEqProofs (disch:=first|exact dz _|fail) only [↓AM.R0,AM.R1,AM.R2,reduceAdd,reduceLeDiff,reduceEqDiff,reduceToNat,Nat.reduceLT,↓reduceIte,reduceEq,Int.reduceLT,reduceLE,y0,y5,y7,g1,x1,x2,x4,x5,encT]
    have hlf:((L.take i).filter fun s=>decide ((s.a:Int)≠x)).length≤4096:=Nat.le_trans (List.length_filter_le _ _) (by rw [List.length_take];omega)
    refine AM.opI_of (SlOf.app1 so (fun _=>rfl) (fun _=>rfl) (by omega) s fun sw h7 H7 so7 f7=>?_)
    have hH7:∀ j,j∈H7→h.n<j:=fun j hj=>by
     rcases f7.new j hj with q | q
     ·exact hH j q
     ·omega
    have g7:=(f7.get h.n ln (fun hm=>by have:=hH _ hm;omega)).trans g6
    have n7:=f7.n
    simp -implicitDefEqProofs (disch:=first|exact dz _|fail) only [↓AM.R0,AM.R1,AM.R2,reduceAdd,reduceLeDiff,reduceEqDiff,reduceToNat,Nat.reduceLT,↓reduceIte,reduceEq,Int.reduceLT,reduceLE,y7,w1]
    refine ⟨k-1,by omega,i+1,sw,H7,z,by omega,y0,y1,rfl,y6,rfl,F.trans f7,by omega,g7,?_,hH7,?_⟩
    ·rw [take_snoc hs,List.filter_append]
     have:List.filter (fun s:Sp=>decide ((s.a:Int)≠x)) [s]=[s]:=by simp [hd]
     rw [this];exact so7
    ·rcases hz with ⟨z1,z2⟩ | z1
     ·refine .inl ⟨z1,fun t ht=>?_⟩
      rw [take_snoc hs] at ht
      rcases List.mem_append.1 ht with q | q
      ·exact z2 t q
      ·simp at q;rw [q];exact hd
     ·exact .inr z1
  ·simp only [decide_eq_false_iff_not] at hc
   rw [List.take_of_length_le (by omega)] at so hz
   have R':=R'
   simp only [encT] at g6
   rcases hz with ⟨rfl,z2⟩ | ⟨z1,z2⟩
   ·have dk:decide (((0:Nat):Int)=0)=true:=rfl
    simp only [zSp] at g6
    simp -implicitDefEqProofs (disch:=first|exact dz _|fail) only [↓AM.R0,AM.R1,AM.R2,reduceAdd,reduceLeDiff,reduceEqDiff,reduceToNat,Nat.reduceLT,↓reduceIte,reduceEq,Int.reduceLT,reduceLE,y6,g6,dk]
    subst hQ
    exact ⟨f,L,v,G,(HFrame.non F).wide (by simp) (fun j hj=>.inr hj) flt,R',.inr ⟨z2,rfl,rfl,rfl⟩⟩
   ·have hc1:=R.I.c1 z z1
    have dk:decide ((z.k:Int)=0)=false:=decide_eq_false (by omega)
    have q8:=so.rd.cells
    have lu0:=R.lu
    have fu:=HFrame.set h' u (.cells 0 false [.ptr r 0 0,sv]) (F:=[u]) (by simp) (by simpa using lu)
    have RR:=R'.R.keepD fu (by simp;exact Ne.symm R.ne.1) (by simp;exact Ne.symm R.ne.2)
    have gu:=AHeap.get_set_same h' u (.cells 0 false [.ptr r 0 0,sv])
    have su:=so.set (i:=u) (fun hm=>by have:=hH _ hm;omega) (.cells 0 false [.ptr r 0 0,sv])
    have nu:(h'.set u (.cells 0 false [.ptr r 0 0,sv])).n=h'.n:=by simp
    simp -implicitDefEqProofs (disch:=first|exact dz _|fail) only [↓AM.R0,AM.R1,AM.R2,reduceAdd,reduceLeDiff,reduceEqDiff,reduceToNat,Nat.reduceLT,↓reduceIte,reduceEq,Int.reduceLT,reduceLE,y0,y1,y5,y6,g6,dk,g1,q8.1,q8.2]
    generalize h'.set u (.cells 0 false [.ptr r 0 0,sv])=h6 at *
    refine AM.trCall_of (rTurn RR x (z.k:Int) false) ?_
    rintro w h7 ⟨g,f7,R7,A7⟩
    have hin:inB n x (z.k:Int)=true:=inB_true.2 ⟨by omega,by omega,by omega⟩
    have hused:∀ q:Nat,z.a≤q→q<z.a+z.k→f q=false:=fun q q1 q2=>(R.I.cov q (by omega)).2 ⟨z,z1,q1,q2⟩
    have hg:(∀ q:Nat,g q=if z.a≤q∧q<z.a+z.k then true else f q):=by
     rcases A7 with ⟨_,_,a3,_⟩ | ⟨_,⟨q,a1,a2,a3⟩,_⟩ | ⟨a1,_⟩
     ·intro q
      rw [a3]
      by_cases c:z.a≤q∧q<z.a+z.k
      ·rw [if_pos c,if_pos (by omega)];rfl
      ·rw [if_neg c,if_neg (by omega)]
     ·rw [hused q (by omega) (by omega)] at a3;cases a3
     ·rw [hin] at a1;cases a1
    have n7:=f7.n
    simp -implicitDefEqProofs (disch:=first|exact dz _|fail) only [↓AM.R0,AM.R1,AM.R2,reduceAdd,reduceLeDiff,reduceEqDiff,reduceToNat,Nat.reduceLT,↓reduceIte,reduceEq,Int.reduceLT,reduceLE,g6]
    subst hQ
    have hrl:=R.R.lr
    have hbl:=R.R.lb
    have hHu:∀ j,j∈[u,r,b]→j ∉ H:=fun j hj hm=>by
     have:=hH j hm
     simp at hj
     rcases hj with rfl | rfl | rfl<;>omega
    have W1:=F.wide (G:=[u,r,b]++G) (G':=[u,r,b]++H) (by simp) (fun j hj=>by rcases List.mem_append.1 hj with q | q;exact .inr (List.mem_append_left _ q);exact .inl q) flt
    have W2:=fu.wide (G:=[u,r,b]++H) (G':=[u,r,b]++H) (by simp) (fun j hj=>.inr hj) W1.lt
    have W3:=f7.wide (G:=[u,r,b]++H) (G':=[u,r,b]++H) (by simp) (fun j hj=>.inr hj) (W1.trans W2).lt
    have hfe:(L.filter fun s=>decide ((s.a:Int)≠x))=remF L z.a:=by
     unfold remF
     refine List.filter_congr fun t _=>?_
     rw [←z2]
     by_cases c:t.a=z.a
     ·simp [c]
     ·rw [show decide ((t.a:Int)≠z.a)=true from decide_eq_true (by omega),show (t.a != z.a)=true from bne_iff_ne.2 c]
    rw [hfe] at su
    refine ⟨g,remF L z.a,sv,H,(W1.trans W2).trans W3,⟨R7,R.I.rem z1 hg,(f7.get u (by omega) (by simp;exact R.ne.2)).trans gu,su.frame f7.n fun j hj=>f7.get j (su.lt j hj) (fun hm=>hHu b (by simp) (by simp at hm;rwa [←hm])),by omega,R.ne,⟨hHu u (by simp),hHu r (by simp),hHu b (by simp)⟩⟩,.inl ⟨z,z1,z2,hg,rfl,rfl⟩⟩
end Go.Proofs.YthillgheddpmhaaDoor.Pg