/-
 What the functions of this seat do,on the machine: lemmas for the laws.
-/
import Derived.Test.YthillgheddpmhaaDoorMX5
import Derived.Test.YthillgheddpmhaaDoorMX7
set_option linter.unusedSimpArgs false
set_option linter.unusedVariables false
set_option maxRecDepth 100000
attribute [local irreducible] Go.AM.wp Go.AM.wpIs Go.AM.wpTr Go.AM.opI Go.AM.gI Go.AM.cI Go.AM.trI Go.AM.callI Go.AM.fnI Go.AM.yldI Go.AM.rangeI Go.AM.rangeC Go.AM.YldP Go.AM.asgQ Go.AM.roundQ Go.AM.rangeQ Go.AM.trG Go.AM.trOp Go.AM.trCall Go.AM.seqC Go.AM.loopI
namespace Go.Proofs.YthillgheddpmhaaDoor.Pg
open Go Go.AM Go.Proofs.YthillgheddpmhaaDoor.AmGJ
open Nat (reduceAdd reduceLeDiff reduceEqDiff)
open Int (reduceToNat reduceEq reduceLE)
set_option maxHeartbeats 8000000 in
theorem rsAlloc {h:AHeap} {u r b n:Nat} {f:Nat→Bool} {L:List Sp} {v:AVal} {G:List Nat} (R:RTab h u r b n f L v G) (k tag:Int):CallP AP 38 [.ptr u 0 0,.int .i64 k,.int .i64 tag] h fun w h'=>∃ g L' v' G',HFrame h h' ([u,r,b]++G) ([u,r,b]++G')∧RTab h' u r b n g L' v' G'∧AllocS f g L L' k tag w:=by
 refine callP (rfl:Tr.get AP 38=some A38) ?_
 generalize hQ:(fun (r:AVal) (h':AHeap)=>_)=Q
 have hn2:=R.R.n2
 have hLn:=R.I.len
 have flt:=R.flt
 have g1:=R.obj
 have lu:=R.lu
 have hrl:=R.R.lr
 have hbl:=R.R.lb
 have f0:=(HFrame.refl (h:=h) (F:=[]) (by simp)).pushTmp (.cells 0 false [.int .i64 0,.int .i64 0,.int .i64 0])
 have g0:(h.push (.cells 0 false [.int .i64 0,.int .i64 0,.int .i64 0])).get h.n=.cells 0 false [.int .i64 0,.int .i64 0,.int .i64 0]:=AHeap.get_push_same _ _
 have n0:(h.push (.cells 0 false [.int .i64 0,.int .i64 0,.int .i64 0])).n=h.n+1:=by simp
 have R0:=R.keep f0
 simp -implicitDefEqProofs (disch:=first|exact dz _|fail) only [↓AM.R0,AM.R1,AM.R2,reduceAdd,reduceLeDiff,reduceEqDiff,reduceToNat,Nat.reduceLT,↓reduceIte,reduceEq,Int.reduceLT,reduceLE,g1]
 generalize h.push (.cells 0 false [.int .i64 0,.int .i64 0,.int .i64 0])=ha at *
 refine AM.callI_of (rAlloc R0.R k) ?_
 rintro w h2 ⟨g,f2,R2,A2⟩
 have W0:=f0.wide (G:=[u,r,b]++G) (G':=[u,r,b]++G) (by simp) (fun j hj=>.inr hj) flt
 have W2:=W0.trans (f2.wide (G:=[u,r,b]++G) (G':=[u,r,b]++G) (by simp) (fun j hj=>.inr hj) W0.lt)
 have n2:=f2.n
 have gc:=(f2.get h.n (by omega) (by simp;omega)).trans g0
 have lc:h.n<h2.n:=by omega
 have so2:=R0.so.frame f2.n fun j hj=>f2.get j (R0.so.lt j hj) (fun hm=>R.nG.2.2 (by simp at hm;rwa [←hm]))
 have gu2:=(f2.get u (by omega) (by simp;exact R.ne.2)).trans R0.obj
 have bad:∀ e:Int,e≠0→w=.tup [.int .i64 0,.int .i64 e]→g=f→Q (.tup [.agg (encT zSp),.int .i64 e]) (h2.set h.n (.cells 0 false (encT zSp))):=fun e he hv hg=>by
  subst hQ
  have ft:=(HFrame.refl (h:=h2) (F:=[h.n]) (by simpa using lc))
  have fz:=HFrame.set h2 h.n (.cells 0 false (encT zSp)) (F:=[h.n]) (by simp) (by simpa using lc)
  have RT:RTab h2 u r b n g L v G:=⟨R2,by rw [hg];exact R.I,gu2,so2,by omega,R.ne,R.nG⟩
  exact ⟨g,L,v,G,W2.setTmp (Nat.le_refl _) _,RT.keepD fz (fun j hj hm=>by simp at hm;have:=flt j hj;omega),w,A2,.inl ⟨e,he,hv,rfl,rfl⟩⟩
 rcases A2':A2 with ⟨c1,c2,hw⟩ | ⟨c1,c3,c2,hw⟩ | ⟨c1,a,c2,c3,hw⟩
 ·rw [hw]
  simp -implicitDefEqProofs (disch:=first|exact dz _|fail) only [↓AM.R0,AM.R1,AM.R2,reduceAdd,reduceLeDiff,reduceEqDiff,reduceToNat,Nat.reduceLT,↓reduceIte,reduceEq,Int.reduceLT,reduceLE,gc,res_ct,retT_some]
  exact bad 1 (by decide) hw c2
 ·rw [hw]
  simp -implicitDefEqProofs (disch:=first|exact dz _|fail) only [↓AM.R0,AM.R1,AM.R2,reduceAdd,reduceLeDiff,reduceEqDiff,reduceToNat,Nat.reduceLT,↓reduceIte,reduceEq,Int.reduceLT,reduceLE,gc,res_ct,retT_some]
  exact bad 3 (by decide) hw c2
 ·clear bad
  clear A2'
  subst hw
  obtain ⟨k,rfl⟩:∃ x:Nat,k=x:=⟨k.toNat,by omega⟩
  rw [Int.toNat_natCast] at c2 c3
  have hk1:1≤k:=by omega
  have hlt:a+k≤n:=by
   rcases Nat.lt_or_ge n (a+k) with q | q
   ·have h1:=c2.1 (k-1) (by omega)
    rw [R.R.out _ (by omega)] at h1;cases h1
   ·exact q
  have hfree:∀ q,a≤q→q<a+k→f q=true:=fun q q1 q2=>by have:=c2.1 (q-a) (by omega);rwa [show a+(q-a)=q by omega] at this
  have J:SInv n g (insF L ⟨a,k,tag⟩):=R.I.ins (s:=⟨a,k,tag⟩) hk1 hlt hfree c3
  have fb:=((HFrame.refl (h:=h2) (F:=[]) (by simp)).pushTmp (.cells 0 false [.int .i64 0,.int .i64 0,.int .i64 0])).setTmp (i:=h2.n) (Nat.le_refl _) (.cells 0 false (encT ⟨a,k,tag⟩))
  have gB:((h2.push (.cells 0 false [.int .i64 0,.int .i64 0,.int .i64 0])).set h2.n (.cells 0 false (encT ⟨a,k,tag⟩))).get h2.n=.cells 0 false (encT ⟨a,k,tag⟩):=AHeap.get_set_same _ _ _
  have nB:((h2.push (.cells 0 false [.int .i64 0,.int .i64 0,.int .i64 0])).set h2.n (.cells 0 false (encT ⟨a,k,tag⟩))).n=h2.n+1:=by simp
  simp only [encT] at fb gB nB
  simp -implicitDefEqProofs (disch:=first|exact dz _|fail) only [↓AM.R0,AM.R1,AM.R2,reduceAdd,reduceLeDiff,reduceEqDiff,reduceToNat,Nat.reduceLT,↓reduceIte,reduceEq,Int.reduceLT,reduceLE]
  generalize (h2.push (.cells 0 false [.int .i64 0,.int .i64 0,.int .i64 0])).set h2.n (.cells 0 false [.int .i64 (a:Int),.int .i64 (k:Int),.int .i64 tag])=h3 at *
  have R3:=R2.keepD fb (by simp) (by simp)
  have gu3:=(fb.get u (by omega) (by simp)).trans gu2
  have gc3:=(fb.get h.n lc (by simp)).trans gc
  have so3:=so2.frame fb.n fun j hj=>fb.get j (so2.lt j hj) (by simp)
  have W3:=W2.trans (fb.wide (by simp) (fun j hj=>.inr hj) W2.lt)
  have lu3:u<h3.n:=by omega
  refine AM.loopI_of (fun m e h'=>∃ (i:Nat) (d:Bool) (sv:AVal) (H:List Nat) (O:List Sp),m+i=L.length∧e.val 0=.ptr u 0 0∧e.val 6=.ptr h.n 0 0∧e.val 8=.int .i64 (a:Int)∧e.val 10=.ptr h2.n 0 0∧e.val 11=sv∧e.val 12=.bool d∧e.val 13=.int .i64 (i:Int)∧HFrame h3 h' [] H ∧
   SlOf h' 3 encT sv O H∧(d=false→O=L.take i∧∀ t,t∈L.take i→t.a≤a)∧(d=true→O++L.drop i=insF L ⟨a,k,tag⟩∧O.length=i+1)) L.length ?_ ?_
  ·refine ⟨0,false,.nils,[],[],by omega,?_,?_,?_,?_,?_,?_,?_,HFrame.refl (by simp),SlOf.nil,fun _=>⟨rfl,fun t ht=>by simp at ht⟩,fun h=>by cases h⟩<;>(simp -implicitDefEqProofs (disch:=first|exact dz _|fail) only [↓AM.R0,AM.R1,AM.R2,reduceAdd,reduceLeDiff,reduceEqDiff,reduceToNat,Nat.reduceLT,↓reduceIte,reduceEq,Int.reduceLT,reduceLE])<;>rfl
  ·rintro m e h' ⟨i,d,sv,H,O,hm,y0,y6,y8,y10,y11,y12,y13,F,so,hO1,hO2⟩
   have hn:=F.n
   have z1:=(F.get u lu3 (by simp)).trans gu3
   have zb:=(F.get h2.n (by omega) (by simp)).trans gB
   have zc:=(F.get h.n (by omega) (by simp)).trans gc3
   have soL:=so3.frame F.n fun j hj=>F.get j (so3.lt j hj) (by simp)
   have lu':u<h'.n:=by omega
   have lb':h2.n<h'.n:=by omega
   simp -implicitDefEqProofs (disch:=first|exact dz _|fail) only [↓AM.R0,AM.R1,AM.R2,reduceAdd,reduceLeDiff,reduceEqDiff,reduceToNat,Nat.reduceLT,↓reduceIte,reduceEq,Int.reduceLT,reduceLE,y0,y13,z1,soL.len]
   refine AM.cI_bool (fun hc=>?_) (fun hc=>?_)
   ·simp only [decide_eq_true_eq] at hc
    obtain ⟨s,hs⟩:∃ s,L[i]?=some s:=⟨_,List.getElem?_eq_getElem (by omega)⟩
    obtain ⟨id,g',off,vs,ro,x1,x2,x3,x4,x5⟩:=soL.rd.ix (fun _=>rfl) hs .i64
    have hx4:off+3≤vs.length:=x4
    have x0:vs[off]?=some (.int .i64 (s.a:Int)):=by
     have:((vs.drop off).take 3)[0]?=some (.int .i64 (s.a:Int)):=by rw [x5];rfl
     rwa [List.getElem?_take,if_pos (by decide),List.getElem?_drop,Nat.add_zero] at this
    have w1:IntKind.i64.wrap ((i:Int)+1)=((i+1:Nat):Int):=(wrap64 (by omega) (by omega)).trans (by omega)
    simp -implicitDefEqProofs (disch:=first|exact dz _|fail) only [AM.RGB,↓AM.R0,AM.R1,AM.R2,reduceAdd,reduceLeDiff,reduceEqDiff,reduceToNat,Nat.reduceLT,↓reduceIte,reduceEq,Int.reduceLT,reduceLE,y0,y8,y12,y13,z1,x1,x2,x0]
    refine AM.cI_cut (fun e' h5=>∃ (d:Bool) (sv:AVal) (H:List Nat) (O:List Sp),e'.val 0=.ptr u 0 0∧e'.val 6=.ptr h.n 0 0∧e'.val 8=.int .i64 (a:Int)∧e'.val 10=.ptr h2.n 0 0∧e'.val 11=sv∧e'.val 12=.bool d∧e'.val 13=.int .i64 (i:Int)∧HFrame h3 h5 [] H ∧
     SlOf h5 3 encT sv O H∧(d=false→O=L.take i∧(∀ t,t∈L.take i→t.a≤a)∧s.a≤a)∧(d=true→O++L.drop i=insF L ⟨a,k,tag⟩∧O.length=i+1)) ?_ ?_
    ·clear y0 y6 y8 y10 y11 y12 y13 so hO1 hO2 F z1 zb zc soL lu' lb' x1 x2 x0 x3 x4 x5 hx4 hn
     rintro e h5 ⟨d,sv,H,O,y0,y6,y8,y10,y11,y12,y13,F,so,hO1,hO2⟩
     have hn:=F.n
     have z1:=(F.get u lu3 (by simp)).trans gu3
     have soL:=so3.frame F.n fun j hj=>F.get j (so3.lt j hj) (by simp)
     have lu':u<h5.n:=by omega
     obtain ⟨id,g',off,vs,ro,x1,x2,x3,x4,x5⟩:=soL.rd.ix (fun _=>rfl) hs .i64
     have hx4:off+3≤vs.length:=x4
     have hOl:O.length≤4097:=by
      cases d with
      | false=>rw [(hO1 rfl).1,List.length_take];omega
      | true=>rw [(hO2 rfl).2];omega
     simp -implicitDefEqProofs (disch:=first|exact dz _|fail) only [↓AM.R0,AM.R1,AM.R2,reduceAdd,reduceLeDiff,reduceEqDiff,reduceToNat,Nat.reduceLT,↓reduceIte,reduceEq,Int.reduceLT,reduceLE,y0,y11,y13,z1,x1,x2,x4,x5,encT]
     refine AM.opI_of (SlOf.app1 so (fun _=>rfl) (fun _=>rfl) (by omega) s fun sw h7 H7 so7 f7=>?_)
     simp -implicitDefEqProofs (disch:=first|exact dz _|fail) only [↓AM.R0,AM.R1,AM.R2,reduceAdd,reduceLeDiff,reduceEqDiff,reduceToNat,Nat.reduceLT,↓reduceIte,reduceEq,Int.reduceLT,reduceLE,y13,w1]
     refine ⟨m-1,by omega,i+1,d,sw,H7,O++[s],by omega,y0,y6,y8,y10,rfl,y12,rfl,F.trans f7,so7,fun hd=>?_,fun hd=>?_⟩
     ·obtain ⟨q1,q2,q3⟩:=hO1 hd
      rw [take_snoc hs,q1]
      refine ⟨rfl,fun t ht=>?_⟩
      rcases List.mem_append.1 ht with q | q
      ·exact q2 t q
      ·simp at q;rw [q];exact q3
     ·obtain ⟨q1,q2⟩:=hO2 hd
      rw [drop_cons hs] at q1
      exact ⟨by rw [List.append_assoc];exact q1,by rw [List.length_append,q2];rfl⟩
    ·refine AM.cI_bool (fun hd=>?_) (fun hd=>?_)
     ·simp only [Bool.and_eq_true,Bool.not_eq_true',decide_eq_true_eq] at hd
      obtain ⟨rfl,hd2⟩:=hd
      obtain ⟨q1,q2⟩:=hO1 rfl
      have hOl:O.length≤4097:=by rw [q1,List.length_take];omega
      simp -implicitDefEqProofs (disch:=first|exact dz _|fail) only [↓AM.R0,AM.R1,AM.R2,reduceAdd,reduceLeDiff,reduceEqDiff,reduceToNat,Nat.reduceLT,↓reduceIte,reduceEq,Int.reduceLT,reduceLE,y10,y11,zb]
      refine AM.opI_of (SlOf.app1 so (fun _=>rfl) (fun _=>rfl) (by omega) ⟨a,k,tag⟩ fun sw h7 H7 so7 f7=>?_)
      simp -implicitDefEqProofs (disch:=first|exact dz _|fail) only [↓AM.R0,AM.R1,AM.R2,reduceAdd,reduceLeDiff,reduceEqDiff,reduceToNat,Nat.reduceLT,↓reduceIte,reduceEq,Int.reduceLT,reduceLE,y0,y6,y8,y10,y13]
      refine ⟨true,sw,H7,O++[⟨a,k,tag⟩],rfl,rfl,F.trans f7,so7,fun h=>(by cases h),fun _=>⟨?_,by rw [List.length_append,q1,List.length_take];simp;omega⟩⟩
      rw [q1,drop_cons hs,List.append_assoc]
      have:=insF_split (l1:=L.take i) (s:=⟨a,k,tag⟩) (t:=s) (l2:=L.drop (i+1)) q2 (by show a<s.a;omega)
      rw [←drop_cons hs,List.take_append_drop] at this
      rw [this,drop_cons hs];rfl
     ·simp -implicitDefEqProofs (disch:=first|exact dz _|fail) only [↓AM.R0,AM.R1,AM.R2,reduceAdd,reduceLeDiff,reduceEqDiff,reduceToNat,Nat.reduceLT,↓reduceIte,reduceEq,Int.reduceLT,reduceLE,y0,y6,y8,y10,y11,y12,y13]
      refine ⟨d,sv,H,O,rfl,rfl,F,so,fun h=>?_,hO2⟩
      obtain ⟨q1,q2⟩:=hO1 h
      refine ⟨q1,q2,?_⟩
      rw [h] at hd
      simp at hd
      omega
   ·simp only [decide_eq_false_iff_not] at hc
    have hiL:i=L.length:=by omega
    simp -implicitDefEqProofs (disch:=first|exact dz _|fail) only [↓AM.R0,AM.R1,AM.R2,reduceAdd,reduceLeDiff,reduceEqDiff,reduceToNat,Nat.reduceLT,↓reduceIte,reduceEq,Int.reduceLT,reduceLE,y12]
    refine AM.cI_cut (fun e' h5=>∃ (sv:AVal) (H:List Nat),e'.val 0=.ptr u 0 0∧e'.val 6=.ptr h.n 0 0∧e'.val 10=.ptr h2.n 0 0∧e'.val 11=sv∧HFrame h3 h5 [] H∧SlOf h5 3 encT sv (insF L ⟨a,k,tag⟩) H) ?_ ?_
    ·clear y0 y6 y8 y10 y11 y12 y13 so hO1 hO2 F z1 zb zc soL lu' lb' hn
     rintro e h5 ⟨sv,H,y0,y6,y10,y11,F,so⟩
     have hn:=F.n
     have z1:=(F.get u lu3 (by simp)).trans gu3
     have zb:=(F.get h2.n (by omega) (by simp)).trans gB
     have zc:=(F.get h.n (by omega) (by simp)).trans gc3
     have hH:∀ j,j∈H→h3.n≤j:=fun j hj=>by
      rcases F.new j hj with q | q
      ·simp at q
      ·exact q
     have lu':u<h5.n:=by omega
     have lc':h.n<h5.n:=by omega
     have lb':h2.n<h5.n:=by omega
     have q8:=so.rd.cells
     have fu:=HFrame.set h5 u (.cells 0 false [.ptr r 0 0,sv]) (F:=[u]) (by simp) (by simpa using lu')
     have R5:=R3.keepD F (by simp) (by simp)
     have RR:=R5.keepD fu (by simp;exact Ne.symm R.ne.1) (by simp;exact Ne.symm R.ne.2)
     have gu:=AHeap.get_set_same h5 u (.cells 0 false [.ptr r 0 0,sv])
     have su:=so.set (i:=u) (fun hm=>by have:=hH _ hm;omega) (.cells 0 false [.ptr r 0 0,sv])
     have ub:=(AHeap.get_set_ne h5 (.cells 0 false [.ptr r 0 0,sv]) (show h2.n≠u by omega)).trans zb
     have uc:=(AHeap.get_set_ne h5 (.cells 0 false [.ptr r 0 0,sv]) (show h.n≠u by omega)).trans zc
     have nu:(h5.set u (.cells 0 false [.ptr r 0 0,sv])).n=h5.n:=by simp
     simp -implicitDefEqProofs (disch:=first|exact dz _|fail) only [↓AM.R0,AM.R1,AM.R2,reduceAdd,reduceLeDiff,reduceEqDiff,reduceToNat,Nat.reduceLT,↓reduceIte,reduceEq,Int.reduceLT,reduceLE,y0,y6,y10,y11,z1,zb,zc,q8.1,q8.2,res_ct,retT_some]
     generalize h5.set u (.cells 0 false [.ptr r 0 0,sv])=h6 at *
     subst hQ
     have hHu:∀ j,j∈[u,r,b]→j ∉ H:=fun j hj hm=>by
      have:=hH j hm
      simp at hj
      rcases hj with rfl | rfl | rfl<;>omega
     have W5:=W3.trans (F.wide (G:=[u,r,b]++G) (G':=[u,r,b]++H) (by simp) (fun j hj=>by rcases List.mem_append.1 hj with q | q;exact .inr (List.mem_append_left _ q);exact .inl q) W3.lt)
     have W6:=W5.trans (fu.wide (G:=[u,r,b]++H) (G':=[u,r,b]++H) (by simp) (fun j hj=>.inr hj) W5.lt)
     have ft:=HFrame.set h6 h.n (.cells 0 false (encT ⟨a,k,tag⟩)) (F:=[h.n]) (by simp) (by simp;omega)
     have RT:RTab h6 u r b n g (insF L ⟨a,k,tag⟩) sv H:=⟨RR,J,gu,su,by omega,R.ne,⟨hHu u (by simp),hHu r (by simp),hHu b (by simp)⟩⟩
     refine ⟨g,insF L ⟨a,k,tag⟩,sv,H,W6.setTmp (Nat.le_refl _) _,RT.keepD ft (fun j hj hm=>?_),_,A2,.inr ⟨a,rfl,by omega,by rw [Int.toNat_natCast],by rw [Int.toNat_natCast];rfl⟩⟩
     simp at hm
     rcases List.mem_append.1 hj with q | q
     ·simp at q;omega
     ·have:=hH j q;omega
    ·refine AM.cI_bool (fun hd=>?_) (fun hd=>?_)
     ·have hd':d=false:=by simpa using hd
      obtain ⟨q1,q2⟩:=hO1 hd'
      rw [hiL,List.take_of_length_le (Nat.le_refl _)] at q1 q2
      have hOl:O.length≤4097:=by rw [q1];omega
      simp -implicitDefEqProofs (disch:=first|exact dz _|fail) only [↓AM.R0,AM.R1,AM.R2,reduceAdd,reduceLeDiff,reduceEqDiff,reduceToNat,Nat.reduceLT,↓reduceIte,reduceEq,Int.reduceLT,reduceLE,y10,y11,zb]
      refine AM.opI_of (SlOf.app1 so (fun _=>rfl) (fun _=>rfl) (by omega) ⟨a,k,tag⟩ fun sw h7 H7 so7 f7=>?_)
      simp -implicitDefEqProofs (disch:=first|exact dz _|fail) only [↓AM.R0,AM.R1,AM.R2,reduceAdd,reduceLeDiff,reduceEqDiff,reduceToNat,Nat.reduceLT,↓reduceIte,reduceEq,Int.reduceLT,reduceLE,y0,y6,y10]
      rw [q1,←insF_all (L:=L) (s:=⟨a,k,tag⟩) q2] at so7
      exact ⟨sw,H7,rfl,F.trans f7,so7⟩
     ·have hd':d=true:=by simpa using hd
      obtain ⟨q1,q2⟩:=hO2 hd'
      rw [hiL,List.drop_of_length_le (Nat.le_refl _),List.append_nil] at q1
      simp -implicitDefEqProofs (disch:=first|exact dz _|fail) only [↓AM.R0,AM.R1,AM.R2,reduceAdd,reduceLeDiff,reduceEqDiff,reduceToNat,Nat.reduceLT,↓reduceIte,reduceEq,Int.reduceLT,reduceLE,y0,y6,y10,y11]
      rw [q1] at so
      exact ⟨sv,H,rfl,F,so⟩
end Go.Proofs.YthillgheddpmhaaDoor.Pg
namespace Go.Proofs.YthillgheddpmhaaDoor.Pg
def pc:Nat→Nat→Nat
 | 0,_=>0
 | n+1,x=>x%2+pc n (x / 2)
theorem pc_add (a:Nat):∀ (m x:Nat),pc (m+a) x=pc m x+pc a (x / 2^m)
 | 0,x=>by simp [pc]
 | m+1,x=>by
  rw [show m+1+a=(m+a)+1 by omega,pc,pc_add a m,pc,Nat.div_div_eq_div_mul,Nat.pow_succ,Nat.mul_comm (2^m) 2];omega
theorem pc_mod:∀ (m x y:Nat),x%2^m=y%2^m→pc m x=pc m y
 | 0,_,_,_=>rfl
 | m+1,x,y,h=>by
  rw [Nat.pow_succ,Nat.mul_comm,Nat.mod_mul,Nat.mod_mul] at h
  rw [pc,pc,pc_mod m (x / 2) (y / 2) (by omega)]
  omega
theorem and_byte (b r m M:Nat) (hb:b<256) (hm:m<256):(b+256*r) &&& (m+256*M)=(b &&& m)+256*(r &&& M):=by
 apply Nat.eq_of_testBit_eq
 intro i
 have e:∀ {x y:Nat},x<256→(x+256*y).testBit i=if i<8 then x.testBit i else y.testBit (i-8):=fun {x y} hx=>by
  have h1:x+256*y=2^8*y+x:=by omega
  rw [h1,Nat.testBit_two_pow_mul_add _ (by simpa using hx)]
 have hbm:b &&& m<256:=Nat.lt_of_le_of_lt Nat.and_le_left hb
 rw [Nat.testBit_and,e hb,e hm,e hbm]
 split
 ·rw [Nat.testBit_and]
 ·rw [Nat.testBit_and]
def rep (m:Nat):Nat→Nat
 | 0=>0
 | n+1=>m+256*rep m n
def s1 (n x:Nat):Nat:=(x / 2 &&& rep 85 n)+(x &&& rep 85 n)
def s2 (n x:Nat):Nat:=(x / 4 &&& rep 51 n)+(x &&& rep 51 n)
def s3 (n x:Nat):Nat:=(x / 16+x) &&& rep 15 n
def g1 (b:Nat):Nat:=(b / 2 &&& 85)+(b &&& 85)
def g2 (b:Nat):Nat:=(b / 4 &&& 51)+(b &&& 51)
def g3 (b:Nat):Nat:=(b / 16+b) &&& 15
theorem dec1:∀ b:Fin 256,∀ t:Fin 2,(b.1 / 2+t.1*128) &&& 85=(b.1 / 2 &&& 85):=by decide
theorem dec2:∀ b:Fin 256,∀ t:Fin 4,(b.1 / 4+t.1*64) &&& 51=(b.1 / 4 &&& 51):=by decide
theorem dec4:∀ b:Fin 256,g1 b.1<256∧g2 (g1 b.1)<256∧g2 (g1 b.1)%16≤4∧g2 (g1 b.1) / 16≤4∧g3 (g2 (g1 b.1))=pc 8 b.1∧pc 8 b.1≤8:=by decide
theorem dec5:∀ a:Fin 5,∀ b:Fin 5,∀ t:Fin 5,((16*a.1+b.1) / 16+t.1*16+(16*a.1+b.1))<256∧((16*a.1+b.1) / 16+t.1*16+(16*a.1+b.1)) &&& 15=g3 (16*a.1+b.1):=by decide
theorem s1_byte {b r n:Nat} (hb:b<256):s1 (n+1) (b+256*r)=g1 b+256*s1 n r:=by
 have h1:(b+256*r) / 2=(b / 2+(r%2)*128)+256*(r / 2):=by omega
 have hr:rep 85 (n+1)=85+256*rep 85 n:=rfl
 unfold s1
 rw [hr,h1,and_byte _ _ _ _ (by omega) (by decide),and_byte _ _ _ _ hb (by decide)]
 have:=dec1 ⟨b,hb⟩ ⟨r%2,Nat.mod_lt _ (by decide)⟩
 simp only at this
 rw [this,g1];omega
theorem s2_byte {b r n:Nat} (hb:b<256):s2 (n+1) (b+256*r)=g2 b+256*s2 n r:=by
 have h1:(b+256*r) / 4=(b / 4+(r%4)*64)+256*(r / 4):=by omega
 have hr:rep 51 (n+1)=51+256*rep 51 n:=rfl
 unfold s2
 rw [hr,h1,and_byte _ _ _ _ (by omega) (by decide),and_byte _ _ _ _ hb (by decide)]
 have:=dec2 ⟨b,hb⟩ ⟨r%4,Nat.mod_lt _ (by decide)⟩
 simp only at this
 rw [this,g2];omega
def bs:Nat→Nat→Nat
 | 0,_=>0
 | n+1,x=>pc 8 (x%256)+256*bs n (x / 256)
theorem s21:∀ (n x:Nat),x<256^n→s2 n (s1 n x)%16≤4∧s3 n (s2 n (s1 n x))=bs n x
 | 0,x,h=>by
  have:x=0:=by simpa using h
  subst this
  decide
 | n+1,x,h=>by
  have hx:x=x%256+256*(x / 256):=by omega
  have hb:x%256<256:=Nat.mod_lt _ (by decide)
  obtain ⟨i1,i2⟩:=s21 n (x / 256) (by rw [Nat.pow_succ] at h;omega)
  obtain ⟨d1,d2,d3,d4,d5,d6⟩:=dec4 ⟨x%256,hb⟩
  simp only at d1 d2 d3 d4 d5 d6
  have e1:s1 (n+1) x=g1 (x%256)+256*s1 n (x / 256):=by
   have:=s1_byte (b:=x%256) (r:=x / 256) (n:=n) hb
   rwa [←hx] at this
  have e2:s2 (n+1) (s1 (n+1) x)=g2 (g1 (x%256))+256*s2 n (s1 n (x / 256)):=by rw [e1,s2_byte d1]
  rw [e2]
  generalize hG:g2 (g1 (x%256))=G at *
  generalize hS:s2 n (s1 n (x / 256))=S at *
  refine ⟨by omega,?_⟩
  have h3:(G+256*S) / 16+(G+256*S)=(G / 16+(S%16)*16+G)+256*(S / 16+S):=by omega
  obtain ⟨q1,q2⟩:=dec5 ⟨G / 16,by omega⟩ ⟨G%16,by omega⟩ ⟨S%16,by omega⟩
  simp only [show 16*(G / 16)+G%16=G by omega] at q1 q2
  have hr:rep 15 (n+1)=15+256*rep 15 n:=rfl
  unfold s3
  rw [hr,h3,and_byte _ _ _ _ q1 (by decide),q2,d5,bs]
  have:=i2
  unfold s3 at this
  rw [this]
theorem bs_lt:∀ n x,bs n x*255+8≤8*256^n
 | 0,_=>by simp [bs]
 | n+1,x=>by
  have h1:=bs_lt n (x / 256)
  have h2:=(dec4 ⟨x%256,Nat.mod_lt _ (by decide)⟩).2.2.2.2.2
  simp only at h2
  rw [bs,Nat.pow_succ];omega
theorem pc_bytes (x:Nat):pc 64 x=pc 8 (x%256)+(pc 8 (x / 256%256)+(pc 8 (x / 65536%256)+(pc 8 (x / 16777216%256)+(pc 8 (x / 4294967296%256)+(pc 8 (x / 1099511627776%256)+(pc 8 (x / 281474976710656%256)+pc 8 (x / 72057594037927936%256))))))):=by
 have m:∀ y,pc 8 y=pc 8 (y%256):=fun y=>pc_mod 8 _ _ (by simp)
 rw [show (64:Nat)=8+56 from rfl,pc_add,show (56:Nat)=8+48 from rfl,pc_add,show (48:Nat)=8+40 from rfl,pc_add,show (40:Nat)=8+32 from rfl,pc_add,show (32:Nat)=8+24 from rfl,pc_add,show (24:Nat)=8+16 from rfl,pc_add,show (16:Nat)=8+8 from rfl,pc_add]
 simp only [Nat.div_div_eq_div_mul,Nat.reducePow,Nat.reduceMul]
 rw [m x,m (x / 256),m (x / 65536),m (x / 16777216),m (x / 4294967296),m (x / 1099511627776),m (x / 281474976710656),m (x / 72057594037927936)]
end Go.Proofs.YthillgheddpmhaaDoor.Pg
namespace Go.Proofs.YthillgheddpmhaaDoor.Pg
open Go Go.AM Go.Proofs.YthillgheddpmhaaDoor.AmGJ
open Nat (reduceAdd reduceLeDiff reduceEqDiff)
open Int (reduceToNat reduceEq reduceLE)
structure Blk where
 a:Nat
 k:Nat
 c:Int
 u:Nat
 w:Option Nat
def Blk.sp (b:Blk):Sp:=⟨b.a,b.k,if b.c=-2 then 0 else b.c+1⟩
def sizeT:List Nat:=[1,2,3,4,5,6,8,10,12,16,20,24,32,40,48,64]
def pageT:List Nat:=[1,1,1,1,1,1,1,1,1,1,1,2,1,2,3,1]
def cellT:List Nat:=[64,32,21,16,12,10,8,6,5,4,3,5,2,3,4,1]
def clsOf (w:Nat):Nat:=(sizeT.filter fun s=>decide (s<w)).length
def Blk.ws (b:Blk):Nat:=if b.c<0 then b.k*64 else sizeT.getD b.c.toNat 0
def Blk.nc (b:Blk):Nat:=if b.c<0 then (if b.c=-1 then 1 else 0) else cellT.getD b.c.toNat 0
def Blk.full (b:Blk):Bool:=decide (pc 64 b.u=cellT.getD b.c.toNat 0)
structure Cm where
 n:Nat
 pr:Nat
 bl:List Blk
def Cm.L (m:Cm):List Sp:=m.bl.map Blk.sp
def Cm.f (m:Cm) (q:Nat):Bool:=decide (q<m.n)&&m.bl.all fun b=>!(decide (b.a≤q)&&decide (q<b.a+b.k))
def fit (f:Nat→Bool) (n k:Nat):Option Nat:=(List.range n).find? fun a=>(List.range k).all fun t=>f (a+t)
def insB:List Blk→Blk→List Blk
 | [],s=>[s]
 | t::l,s=>if s.a<t.a then s::t::l else t::insB l s
def Cm.get (m:Cm) (a:Nat):Option Blk:=m.bl.find? fun b=>b.a==a
def Cm.upd (m:Cm) (a:Nat) (g:Blk→Blk):Cm:={ m with bl:=m.bl.map fun b=>if b.a=a then g b else b }
def Cm.rem (m:Cm) (a:Nat):Cm:={ m with bl:=m.bl.filter fun b=>b.a != a }
def Cm.ins (m:Cm) (b:Blk):Cm:={ m with bl:=insB m.bl b }
def Blk.setU (u:Nat) (b:Blk):Blk:={ b with u:=u }
def Blk.setW (w:Option Nat) (b:Blk):Blk:={ b with w:=w }
def Cm.cells (m:Cm):Nat:=(m.bl.map fun b=>pc 64 b.u).sum
def Cm.words (m:Cm):Nat:=(m.bl.map fun b=>pc 64 b.u*b.ws).sum
theorem mem_insB:∀ {L:List Blk} {s x:Blk},x∈insB L s↔x=s∨x∈L
 | [],s,x=>by simp [insB]
 | t::l,s,x=>by
  rw [insB]
  split
  ·simp
  ·rw [List.mem_cons,mem_insB,List.mem_cons]
   constructor
   ·rintro (h | h | h)
    ·exact .inr (.inl h)
    ·exact .inl h
    ·exact .inr (.inr h)
   ·rintro (h | h | h)
    ·exact .inr (.inl h)
    ·exact .inl h
    ·exact .inr (.inr h)
theorem insB_sp:∀ (L:List Blk) (s:Blk),(insB L s).map Blk.sp=insF (L.map Blk.sp) s.sp
 | [],s=>rfl
 | t::l,s=>by
  rw [insB,List.map_cons,insF]
  show _=if s.a<t.a then _ else _
  split
  ·rfl
  ·rw [List.map_cons,insB_sp l s]
theorem insB_sum (g:Blk→Nat):∀ (L:List Blk) (s:Blk),((insB L s).map g).sum=g s+(L.map g).sum
 | [],s=>rfl
 | t::l,s=>by
  rw [insB]
  split
  ·simp
  ·simp only [List.map_cons,List.sum_cons,insB_sum g l s];omega
theorem upd_sp {m:Cm} {a:Nat} {g:Blk→Blk} (h:∀ b,(g b).sp=b.sp):(m.upd a g).L=m.L:=by
 simp only [Cm.L,Cm.upd,List.map_map]
 apply List.map_congr_left
 intro b hb
 simp only [Function.comp]
 split
 ·exact h b
 ·rfl
theorem sp_setU (u:Nat) (b:Blk):(Blk.setU u b).sp=b.sp:=rfl
theorem sp_setW (u:Option Nat) (b:Blk):(Blk.setW u b).sp=b.sp:=rfl
theorem rem_sp (m:Cm) (a:Nat):(m.rem a).L=remF m.L a:=by
 simp only [Cm.L,Cm.rem,remF,List.filter_map]
 rfl
theorem ins_sp (m:Cm) (b:Blk):(m.ins b).L=insF m.L b.sp:=insB_sp _ _
theorem f_out (m:Cm) {q:Nat} (h:m.n≤q):m.f q=false:=by
 unfold Cm.f
 rw [decide_eq_false (by omega:¬ q<m.n),Bool.false_and]
theorem f_false (m:Cm) {q:Nat} (h:q<m.n):m.f q=false↔∃ b,b∈m.bl∧b.a≤q∧q<b.a+b.k:=by
 unfold Cm.f
 rw [decide_eq_true h,Bool.true_and,List.all_eq_false]
 constructor
 ·rintro ⟨b,hb,h2⟩
  refine ⟨b,hb,?_⟩
  simpa using h2
 ·rintro ⟨b,hb,h2⟩
  refine ⟨b,hb,?_⟩
  simpa using h2
theorem SInv.f_eq {m:Cm} {f:Nat→Bool} (I:SInv m.n f m.L) (ho:∀ q,m.n≤q→f q=false):f=m.f:=by
 funext q
 rcases Nat.lt_or_ge q m.n with h | h
 ·have h1:=I.cov q h
  have h2:=f_false m h
  have h3:(∃ s,s∈m.L∧s.a≤q∧q<s.a+s.k)↔∃ b,b∈m.bl∧b.a≤q∧q<b.a+b.k:=by
   constructor
   ·rintro ⟨s,hs,h⟩
    obtain ⟨b,hb,rfl⟩:=List.mem_map.1 hs
    exact ⟨b,hb,h⟩
   ·rintro ⟨b,hb,h⟩
    exact ⟨b.sp,List.mem_map.2 ⟨b,hb,rfl⟩,h⟩
  have:f q=false↔m.f q=false:=h1.trans (h3.trans h2.symm)
  cases e1:f q<;>cases e2:m.f q<;>simp [e1,e2] at this<;>rfl
 ·rw [ho q h,f_out m h]
theorem fit_some {f:Nat→Bool} {n k a:Nat} (hk:1≤k) (ho:∀ q,n≤q→f q=false):fit f n k=some a↔FirstAt f k a:=by
 have hr:∀ q,((List.range k).all fun t=>f (q+t))=true↔Row f q k:=fun q=>by
  rw [List.all_eq_true]
  exact ⟨fun h t ht=>h t (List.mem_range.2 ht),fun h t ht=>h t (List.mem_range.1 ht)⟩
 constructor
 ·intro h
  unfold fit at h
  rw [List.find?_range_eq_some] at h
  obtain ⟨h1,h2,h3⟩:=h
  refine ⟨(hr a).1 h1,fun q hq hR=>?_⟩
  have:=h3 q hq
  rw [(hr q).2 hR] at this
  simp at this
 ·intro h
  unfold fit
  rw [List.find?_range_eq_some]
  have ha:a<n:=by
   rcases Nat.lt_or_ge a n with c | c
   ·exact c
   ·have:=h.1 0 (by omega)
    rw [ho _ (by omega)] at this;cases this
  refine ⟨(hr a).2 h.1,List.mem_range.2 ha,fun q hq=>?_⟩
  have:=h.2 q hq
  rw [←hr q] at this
  simpa using this
theorem fit_none {f:Nat→Bool} {n k:Nat} (hk:1≤k) (ho:∀ q,n≤q→f q=false):fit f n k=none↔∀ q,¬ Row f q k:=by
 unfold fit
 rw [List.find?_range_eq_none]
 have hr:∀ q,((List.range k).all fun t=>f (q+t))=true↔Row f q k:=fun q=>by
  rw [List.all_eq_true]
  exact ⟨fun h t ht=>h t (List.mem_range.2 ht),fun h t ht=>h t (List.mem_range.1 ht)⟩
 constructor
 ·intro h q hR
  rcases Nat.lt_or_ge q n with c | c
  ·have:=h q c
   rw [(hr q).2 hR] at this;simp at this
  ·have:=hR 0 (by omega)
   rw [ho _ (by omega)] at this;cases this
 ·intro h q hq
  have:=h q
  rw [←hr q] at this
  simpa using this
structure CInv (m:Cm):Prop where
 S:SInv m.n m.f m.L
 B:∀ b,b∈m.bl→(b.c=-2∧b.u=0∧b.w=none)∨(b.c=-1∧b.u≤1∧b.w=none)∨(∃ c:Nat,c<16∧b.c=(c:Int)∧b.k=pageT.getD c 0∧b.u<2^cellT.getD c 0)
 H:∀ b b' p,b∈m.bl→b'∈m.bl→b.w=some p→b'.w=some p→b.c=b'.c→b.a=b'.a
 P:∀ b p,b∈m.bl→b.w=some p→p<m.pr
theorem CInv.same {m:Cm} (I:CInv m) {b b':Blk} (hb:b∈m.bl) (hb':b'∈m.bl) (h:b.a=b'.a):b=b':=by
 have h1:=I.S.srt
 have h2:m.bl.Pairwise fun s t=>s.a+s.k≤t.a:=by
  unfold Cm.L at h1
  rw [List.pairwise_map] at h1
  exact h1
 have hk:1≤b.k:=(I.S.c1 b.sp (List.mem_map.2 ⟨b,hb,rfl⟩)).1
 have hk':1≤b'.k:=(I.S.c1 b'.sp (List.mem_map.2 ⟨b',hb',rfl⟩)).1
 clear h1
 generalize m.bl=l at *
 clear I
 induction l with
 | nil=>simp at hb
 | cons x l ih =>
  rw [List.pairwise_cons] at h2
  rcases List.mem_cons.1 hb with e1 | e1<;>rcases List.mem_cons.1 hb' with e2 | e2
  ·rw [e1,e2]
  ·have:=h2.1 b' e2;rw [←e1] at this;omega
  ·have:=h2.1 b e1;rw [←e2] at this;omega
  ·exact ih e1 e2 h2.2
theorem CInv.get {m:Cm} (I:CInv m) {b:Blk} (hb:b∈m.bl):m.get b.a=some b:=by
 have hs:(m.get b.a).isSome:=by
  unfold Cm.get;rw [List.find?_isSome];exact ⟨b,hb,by simp⟩
 obtain ⟨t,ht⟩:=Option.isSome_iff_exists.1 hs
 rw [ht]
 have h3:=List.find?_some ht
 have h4:=List.mem_of_find?_eq_some ht
 rw [I.same h4 hb (by simpa using h3)]
theorem CInv.bd {m:Cm} (I:CInv m) {b:Blk} (hb:b∈m.bl):1≤b.k∧b.a+b.k≤m.n:=I.S.c1 b.sp (List.mem_map.2 ⟨b,hb,rfl⟩)
theorem mem_upd {m:Cm} {a:Nat} {g:Blk→Blk} {x:Blk}:x∈(m.upd a g).bl↔(∃ b,b∈m.bl∧b.a=a∧x=g b)∨(x∈m.bl∧x.a≠a):=by
 simp only [Cm.upd,List.mem_map]
 constructor
 ·rintro ⟨b,hb,rfl⟩
  by_cases e:b.a=a
  ·rw [if_pos e];exact .inl ⟨b,hb,e,rfl⟩
  ·rw [if_neg e];exact .inr ⟨hb,e⟩
 ·rintro (⟨b,hb,e,rfl⟩ | ⟨hb,e⟩)
  ·exact ⟨b,hb,by rw [if_pos e]⟩
  ·exact ⟨x,hb,by rw [if_neg e]⟩
theorem upd_f {m:Cm} {a:Nat} {g:Blk→Blk} (h:∀ b,(g b).a=b.a∧(g b).k=b.k):(m.upd a g).f=m.f:=by
 funext q
 unfold Cm.f Cm.upd
 simp only [List.all_map]
 congr 1
 congr 1
 funext b
 simp only [Function.comp]
 split
 ·rw [(h b).1,(h b).2]
 ·rfl
end Go.Proofs.YthillgheddpmhaaDoor.Pg
namespace Go.Proofs.YthillgheddpmhaaDoor.Pg
open Go Go.AM Go.Proofs.YthillgheddpmhaaDoor.AmGJ
open Nat (reduceAdd reduceLeDiff reduceEqDiff)
open Int (reduceToNat reduceEq reduceLE)
theorem pc8_le (x:Nat):pc 8 (x%256)≤8:=by
 have:=(dec4 ⟨x%256,Nat.mod_lt _ (by decide)⟩).2.2.2.2.2
 simpa using this
theorem fold1 (b0 R:Nat) (h:b0≤8):(b0+256*R) / 256=R:=by omega
theorem fold2 (s R:Nat) (h:s<65536):(s+65536*R) / 65536=R:=by omega
theorem fold3 (s R:Nat) (h:s<4294967296):(s+4294967296*R) / 4294967296=R:=by omega
theorem fold4 (s R:Nat) (h:s≤64):(s+256*R)%128=s:=by omega
theorem fold_ones (b0 b1 b2 b3 b4 b5 b6 b7:Nat) (h0:b0≤8) (h1:b1≤8) (h2:b2≤8) (h3:b3≤8) (h4:b4≤8) (h5:b5≤8) (h6:b6≤8) (h7:b7≤8) (y t1 t2 t3:Nat)
  (hy:y=b0+256*(b1+256*(b2+256*(b3+256*(b4+256*(b5+256*(b6+256*b7))))))) (e1:t1=y+y / 256) (e2:t2=t1+t1 / 65536) (e3:t3=t2+t2 / 4294967296) :
  t3%128=b0+(b1+(b2+(b3+(b4+(b5+(b6+b7)))))):=by
 rw [hy,fold1 _ _ h0] at e1
 clear hy
 have f1:t1=((b0+b1)+256*(b1+b2))+65536*((b2+b3)+256*((b3+b4)+256*((b4+b5)+256*((b5+b6)+256*((b6+b7)+256*b7))))):=by clear e2 e3 h0 h1 h2 h3 h4 h5 h6 h7;omega
 clear e1
 have c1:(b0+b1)+256*(b1+b2)<65536:=by clear f1 e2 e3;omega
 rw [f1,fold2 _ _ c1] at e2
 clear f1 c1
 have f2:t2=((b0+b1+b2+b3)+256*((b1+b2+b3+b4)+256*((b2+b3+b4+b5)+256*(b3+b4+b5+b6))))+4294967296*((b4+b5+b6+b7)+256*((b5+b6+b7)+256*((b6+b7)+256*b7))):=by clear e3 h0 h1 h2 h3 h4 h5 h6 h7;omega
 clear e2
 have c2:(b0+b1+b2+b3)+256*((b1+b2+b3+b4)+256*((b2+b3+b4+b5)+256*(b3+b4+b5+b6)))<4294967296:=by clear f2 e3;omega
 rw [f2,fold3 _ _ c2] at e3
 clear f2 c2
 have f4:t3=(b0+(b1+(b2+(b3+(b4+(b5+(b6+b7)))))))+256*((b1+b2+b3+b4+b5+b6+b7)+256*((b2+b3+b4+b5+b6+b7)+256*((b3+b4+b5+b6+b7)+256*((b4+b5+b6+b7)+256*((b5+b6+b7)+256*((b6+b7)+256*b7)))))):=by clear h0 h1 h2 h3 h4 h5 h6 h7;omega
 clear e3
 have c3:b0+(b1+(b2+(b3+(b4+(b5+(b6+b7))))))≤64:=by clear f4;omega
 rw [f4,fold4 _ _ c3]
theorem addN {a b:Nat} (h:a+b<18446744073709551616):IntKind.u64.wrap ((a:Int)+(b:Int))=((a+b:Nat):Int):=(wrapN h).symm ▸ (by congr 1)
theorem two_c {x z c:Nat} (h:c+c<18446744073709551616):(x &&& c)+(z &&& c)<18446744073709551616:=Nat.lt_of_le_of_lt (Nat.add_le_add Nat.and_le_right Nat.and_le_right) h
theorem half_add {x d m:Nat} (h:x≤m):x+x / d≤2*m:=by have:=Nat.div_le_self x d;omega
theorem half_add' {x d m:Nat} (h:x≤m):x / d+x≤2*m:=by have:=Nat.div_le_self x d;omega
theorem and127 (x:Nat):x &&& 127=x%128:=Nat.and_two_pow_sub_one_eq_mod x 7
theorem and_i64 {h:AHeap} {a:Nat} (ha:a<9223372036854775808):binV h .and (.int .i64 (a:Int)) (.int .i64 127)=some (.int .i64 ((a%128:Nat):Int),h):=by
 have:=bin_and (h:=h) .i64 (a:Int) 127 (by omega) (by show (a:Int)≤9223372036854775807;omega) (by omega) (by decide)
 have e:(127:Int).toNat=127:=rfl
 rw [Int.toNat_natCast,e,and127] at this
 exact this
theorem y_le {w:Nat}:bs 8 w≤578721382704613384:=by
 have h:=bs_lt 8 w
 have e:(256:Nat)^8=18446744073709551616:=by decide
 rw [e] at h
 omega
theorem ones_ar (w:Nat) (hw:w<18446744073709551616):∃ a b y t1 t2 t3:Nat,
  (w / 2 &&& 6148914691236517205)+(w &&& 6148914691236517205)=a∧(a / 4 &&& 3689348814741910323)+(a &&& 3689348814741910323)=b∧(b / 16+b) &&& 1085102592571150095=y∧b / 16+b<18446744073709551616∧y+y / 256=t1∧t1<18446744073709551616∧t1+t1 / 65536=t2∧t2<18446744073709551616∧t2+t2 / 4294967296=t3∧t3<9223372036854775808∧t3%128=pc 64 w:=by
 have hA:w<256^8:=by simpa using hw
 have q3:=(s21 8 w hA).2
 refine ⟨s1 8 w,s2 8 (s1 8 w),bs 8 w,_,_,_,?_,?_,?_,?_,rfl,?_,rfl,?_,rfl,?_,?_⟩
 ·have r1:rep 85 8=6148914691236517205:=by decide
  rw [s1,r1]
 ·have r2:rep 51 8=3689348814741910323:=by decide
  rw [s2,r2]
 ·have r3:rep 15 8=1085102592571150095:=by decide
  rw [s3,r3] at q3
  exact q3
 ·have r2:rep 51 8=3689348814741910323:=by decide
  have h2:s2 8 (s1 8 w)≤3689348814741910323+3689348814741910323:=by rw [s2,r2];exact Nat.add_le_add Nat.and_le_right Nat.and_le_right
  exact Nat.lt_of_le_of_lt (half_add' h2) (by decide)
 ·exact Nat.lt_of_le_of_lt (half_add y_le) (by decide)
 ·exact Nat.lt_of_le_of_lt (half_add (half_add y_le)) (by decide)
 ·exact Nat.lt_of_le_of_lt (half_add (half_add (half_add y_le))) (by decide)
 ·rw [pc_bytes]
  refine fold_ones _ _ _ _ _ _ _ _ (pc8_le w) (pc8_le (w / 256)) (pc8_le (w / 65536)) (pc8_le (w / 16777216)) (pc8_le (w / 4294967296)) (pc8_le (w / 1099511627776)) (pc8_le (w / 281474976710656)) (pc8_le (w / 72057594037927936)) _ _ _ _ ?_ rfl rfl rfl
  simp only [bs,Nat.div_div_eq_div_mul,Nat.reduceMul,Nat.mul_zero,Nat.add_zero]
set_option maxHeartbeats 2000000 in
theorem ones {h:AHeap} {w:Nat} (hw:w<18446744073709551616):CallP AP 97 [.int .u64 (w:Int)] h fun r h'=>h'=h∧r=.int .i64 (pc 64 w:Nat):=by
 refine callP (rfl:Tr.get AP 97=some A97) ?_
 generalize hQ:(fun (r:AVal) (h':AHeap)=>_)=Q
 obtain ⟨a,b,y,t1,t2,t3,ha,hb,hy,lb,ht1,l1,ht2,l2,ht3,l3,hr⟩:=ones_ar w hw
 have la:a<18446744073709551616:=by rw [←ha];exact two_c (by decide)
 have l0:b<18446744073709551616:=by rw [←hb];exact two_c (by decide)
 have ly:y<18446744073709551616:=by rw [←hy];exact Nat.lt_of_le_of_lt Nat.and_le_right (by decide)
 have lt:t3<18446744073709551616:=Nat.lt_trans l3 (by decide)
 have w2:w / 2<18446744073709551616:=Nat.lt_of_le_of_lt (Nat.div_le_self _ _) hw
 have a4:a / 4<18446744073709551616:=Nat.lt_of_le_of_lt (Nat.div_le_self _ _) la
 have d1:w >>> 1=w / 2:=Nat.shiftRight_eq_div_pow w 1
 have d2:a >>> 2=a / 4:=Nat.shiftRight_eq_div_pow a 2
 have d3:b >>> 4=b / 16:=Nat.shiftRight_eq_div_pow b 4
 have d4:y >>> 8=y / 256:=Nat.shiftRight_eq_div_pow y 8
 have d5:t1 >>> 16=t1 / 65536:=Nat.shiftRight_eq_div_pow t1 16
 have d6:t2 >>> 32=t2 / 4294967296:=Nat.shiftRight_eq_div_pow t2 32
 have g1:=addN (a:=w / 2 &&& 6148914691236517205) (b:=w &&& 6148914691236517205) (by rw [ha];exact la)
 have g2:=addN (a:=a / 4 &&& 3689348814741910323) (b:=a &&& 3689348814741910323) (by rw [hb];exact l0)
 have g3:=addN (a:=b / 16) (b:=b) lb
 have g4:=addN (a:=y) (b:=y / 256) (by rw [ht1];exact l1)
 have g5:=addN (a:=t1) (b:=t1 / 65536) (by rw [ht2];exact l2)
 have g6:=addN (a:=t2) (b:=t2 / 4294967296) (by rw [ht3];exact lt)
 rw [ha] at g1
 rw [hb] at g2
 rw [ht1] at g4
 rw [ht2] at g5
 rw [ht3] at g6
 have g7:IntKind.i64.wrap ((t3:Nat):Int)=((t3:Nat):Int):=wrap64 (by omega) (by omega)
 have e1:=shr_nat (h:=h) (a:=w) (b:=1) (l:=.u64) (by decide)
 have e2:=and_nat (h:=h) (a:=w / 2) (b:=6148914691236517205) w2 (by decide)
 have e3:=and_nat (h:=h) (a:=w) (b:=6148914691236517205) hw (by decide)
 have e4:=shr_nat (h:=h) (a:=a) (b:=2) (l:=.u64) (by decide)
 have e5:=and_nat (h:=h) (a:=a / 4) (b:=3689348814741910323) a4 (by decide)
 have e6:=and_nat (h:=h) (a:=a) (b:=3689348814741910323) la (by decide)
 have e7:=shr_nat (h:=h) (a:=b) (b:=4) (l:=.u64) (by decide)
 have e8:=and_nat (h:=h) (a:=b / 16+b) (b:=1085102592571150095) lb (by decide)
 have e9:=shr_nat (h:=h) (a:=y) (b:=8) (l:=.u64) (by decide)
 have ea:=shr_nat (h:=h) (a:=t1) (b:=16) (l:=.u64) (by decide)
 have eb:=shr_nat (h:=h) (a:=t2) (b:=32) (l:=.u64) (by decide)
 have ec:=and_i64 (h:=h) l3
 rw [d1] at e1
 rw [d2] at e4
 rw [d3] at e7
 rw [d4] at e9
 rw [d5] at ea
 rw [d6] at eb
 rw [hy] at e8
 clear ha hb hy lb ht1 l1 ht2 l2 ht3 hw la l0 ly lt w2 a4 d1 d2 d3 d4 d5 d6
 simp only [Int.cast_ofNat_Int] at e1 e2 e3 e4 e5 e6 e7 e8 e9 ea eb
 simp -implicitDefEqProofs (disch:=first | decide | fail) only [↓AM.R0,AM.R1,AM.R2,e1,e2,e3,e4,e5,e6,e7,e8,e9,ea,eb,ec,g1,g2,g3,g4,g5,g6,g7,Nat.reduceAdd,Int.reduceToNat,↓reduceIte]
 subst hQ
 exact ⟨rfl,by rw [hr]⟩
end Go.Proofs.YthillgheddpmhaaDoor.Pg
namespace Go.Proofs.YthillgheddpmhaaDoor.Pg
open Go Go.AM Go.Proofs.YthillgheddpmhaaDoor.AmGJ
open Nat (reduceAdd reduceLeDiff reduceEqDiff)
open Int (reduceToNat reduceEq reduceLE)
def Cm.held (m:Cm) (p c:Nat):Option Blk:=m.bl.find? fun b=>decide (b.c=(c:Int))&&decide (b.w=some p)
theorem held_mem {m:Cm} {p c:Nat} {b:Blk} (h:m.held p c=some b):b∈m.bl∧b.c=(c:Int)∧b.w=some p:=by
 have h3:=List.find?_some h
 have h4:=List.mem_of_find?_eq_some h
 simp only [Bool.and_eq_true,decide_eq_true_eq] at h3
 exact ⟨h4,h3⟩
theorem held_none {m:Cm} {p c:Nat}:m.held p c=none↔∀ b,b∈m.bl→¬ (b.c=(c:Int)∧b.w=some p):=by
 unfold Cm.held
 rw [List.find?_eq_none]
 simp only [Bool.and_eq_true,decide_eq_true_eq]
theorem CInv.held {m:Cm} (I:CInv m) {p c:Nat} {b:Blk} (hb:b∈m.bl) (h1:b.c=(c:Int)) (h2:b.w=some p):m.held p c=some b:=by
 cases e:m.held p c with
 | none=>exact absurd ⟨h1,h2⟩ (held_none.1 e b hb)
 | some b' =>
  obtain ⟨q1,q2,q3⟩:=held_mem e
  rw [I.same q1 hb (I.H b' b p q1 hb q3 h2 (q2.trans h1.symm))]
theorem CInv.cls {m:Cm} (I:CInv m) {b:Blk} (hb:b∈m.bl) (h:0≤b.c):∃ c:Nat,c<16∧b.c=(c:Int)∧b.k=pageT.getD c 0∧b.u<2^cellT.getD c 0:=by
 rcases I.B b hb with ⟨e,_⟩ | ⟨e,_⟩ | e
 ·omega
 ·omega
 ·exact e
theorem upd_bl {m:Cm} {a:Nat} {g:Blk→Blk} (hg:∀ b,(g b).a=b.a) {x:Blk} (hx:x∈(m.upd a g).bl):∃ b,b∈m.bl∧b.a=x.a∧(x=b∧b.a≠a∨b.a=a∧x=g b):=by
 rcases mem_upd.1 hx with ⟨b,hb,e,rfl⟩ | ⟨hb,e⟩
 ·exact ⟨b,hb,(hg b).symm,.inr ⟨e,rfl⟩⟩
 ·exact ⟨x,hb,rfl,.inl ⟨rfl,e⟩⟩
theorem CInv.setU {m:Cm} (I:CInv m) {b:Blk} (hb:b∈m.bl) {u:Nat} (hu:(b.c=-1∧u≤1)∨∃ c:Nat,c<16∧b.c=(c:Int)∧u<2^cellT.getD c 0):CInv (m.upd b.a (Blk.setU u)):=by
 have hg:∀ x:Blk,(Blk.setU u x).a=x.a:=fun _=>rfl
 refine ⟨?_,fun x hx=>?_,fun x y p hx hy wx wy hc=>?_,fun x p hx wx=>?_⟩
 ·rw [upd_f (g:=Blk.setU u) (fun _=>⟨rfl,rfl⟩),upd_sp (sp_setU u)];exact I.S
 ·rcases mem_upd.1 hx with ⟨b',hb',e,rfl⟩ | ⟨hx',_⟩
  ·obtain rfl:=I.same hb' hb e
   rcases hu with ⟨h1,h2⟩ | ⟨c,h1,h2,h3⟩
   ·rcases I.B _ hb with ⟨q,_⟩ | ⟨q1,q2,q3⟩ | ⟨c,q1,q2,_⟩
    ·omega
    ·exact .inr (.inl ⟨h1,h2,q3⟩)
    ·omega
   ·rcases I.B _ hb with ⟨q,_⟩ | ⟨q1,q2,q3⟩ | ⟨c',q1,q2,q3,_⟩
    ·omega
    ·omega
    ·obtain rfl:c=c':=by omega
     exact .inr (.inr ⟨c,h1,h2,q3,h3⟩)
  ·exact I.B x hx'
 ·obtain ⟨x',hx',ex,ox⟩:=upd_bl hg hx
  obtain ⟨y',hy',ey,oy⟩:=upd_bl hg hy
  have e1:x'.w=x.w∧x'.c=x.c:=by rcases ox with ⟨rfl,_⟩ | ⟨_,rfl⟩<;>exact ⟨rfl,rfl⟩
  have e2:y'.w=y.w∧y'.c=y.c:=by rcases oy with ⟨rfl,_⟩ | ⟨_,rfl⟩<;>exact ⟨rfl,rfl⟩
  rw [←ex,←ey]
  exact I.H x' y' p hx' hy' (e1.1.trans wx) (e2.1.trans wy) (by rw [e1.2,e2.2];exact hc)
 ·obtain ⟨x',hx',ex,ox⟩:=upd_bl hg hx
  have e1:x'.w=x.w:=by rcases ox with ⟨rfl,_⟩ | ⟨_,rfl⟩<;>rfl
  exact I.P x' p hx' (e1.trans wx)
theorem CInv.setW {m:Cm} (I:CInv m) {b:Blk} (hb:b∈m.bl) {w:Option Nat} {c:Nat} (hc:b.c=(c:Int)) (hw:∀ p,w=some p→p<m.pr∧m.held p c=none):CInv (m.upd b.a (Blk.setW w)):=by
 have hg:∀ x:Blk,(Blk.setW w x).a=x.a:=fun _=>rfl
 refine ⟨?_,fun x hx=>?_,fun x y p hx hy wx wy hc'=>?_,fun x p hx wx=>?_⟩
 ·rw [upd_f (g:=Blk.setW w) (fun _=>⟨rfl,rfl⟩),upd_sp (sp_setW w)];exact I.S
 ·rcases mem_upd.1 hx with ⟨b',hb',e,rfl⟩ | ⟨hx',_⟩
  ·obtain rfl:=I.same hb' hb e
   rcases I.B _ hb with ⟨q,_⟩ | ⟨q1,q2,q3⟩ | q
   ·omega
   ·omega
   ·exact .inr (.inr q)
  ·exact I.B x hx'
 ·rcases mem_upd.1 hx with ⟨b1,hb1,e1,rfl⟩ | ⟨hx',n1⟩<;>rcases mem_upd.1 hy with ⟨b2,hb2,e2,rfl⟩ | ⟨hy',n2⟩
  ·rw [hg,hg,e1,e2]
  ·exfalso
   obtain rfl:=I.same hb1 hb e1
   have h2:=held_none.1 (hw p wx).2 y hy'
   exact h2 ⟨(by rw [←hc'];exact hc),wy⟩
  ·exfalso
   obtain rfl:=I.same hb2 hb e2
   have h2:=held_none.1 (hw p wy).2 x hx'
   exact h2 ⟨(by rw [hc'];exact hc),wx⟩
  ·exact I.H x y p hx' hy' wx wy hc'
 ·rcases mem_upd.1 hx with ⟨b1,hb1,e1,rfl⟩ | ⟨hx',n1⟩
  ·exact (hw p wx).1
  ·exact I.P x p hx' wx
theorem CInv.rem {m:Cm} (I:CInv m) {b:Blk} (hb:b∈m.bl):CInv (m.rem b.a):=by
 have hm:∀ x,x∈(m.rem b.a).bl→x∈m.bl:=fun x hx=>(List.mem_filter.1 hx).1
 refine ⟨?_,fun x hx=>I.B x (hm x hx),fun x y p hx hy=>I.H x y p (hm x hx) (hm y hy),fun x p hx=>I.P x p (hm x hx)⟩
 rw [rem_sp]
 have hs:b.sp∈m.L:=List.mem_map.2 ⟨b,hb,rfl⟩
 refine I.S.rem hs fun q=>?_
 rcases Nat.lt_or_ge q m.n with hq | hq
 ·by_cases c:b.a≤q∧q<b.a+b.k
  ·have:(m.rem b.a).f q≠false:=by
    intro e
    obtain ⟨x,hx,h1,h2⟩:=(f_false (m.rem b.a) (q:=q) hq).1 e
    obtain ⟨hx1,hx2⟩:=List.mem_filter.1 hx
    have h3:x.sp=b.sp:=sp_uniq I.S.srt (List.mem_map.2 ⟨x,hx1,rfl⟩) hs (q:=q) h1 h2 c.1 c.2
    have h4:x.a=b.a:=congrArg Sp.a h3
    simp [h4] at hx2
   show _=if b.a≤q∧q<b.a+b.k then true else m.f q
   rw [if_pos c]
   simpa using this
  ·show _=if b.a≤q∧q<b.a+b.k then true else m.f q
   rw [if_neg c]
   have h1:=f_false (m.rem b.a) (q:=q) hq
   have h2:=f_false m hq
   have:(m.rem b.a).f q=false↔m.f q=false:=by
    rw [h1,h2]
    constructor
    ·rintro ⟨x,hx,h⟩;exact ⟨x,hm x hx,h⟩
    ·rintro ⟨x,hx,h⟩
     refine ⟨x,List.mem_filter.2 ⟨hx,?_⟩,h⟩
     simp only [bne_iff_ne,ne_eq]
     intro e
     obtain rfl:=I.same hx hb e
     exact c h
   cases e1:(m.rem b.a).f q<;>cases e2:m.f q<;>simp [e1,e2] at this<;>rfl
 ·have h1:(m.rem b.a).f q=false:=f_out (m.rem b.a) hq
  have h2:=f_out m hq
  have hb2:=I.bd hb
  show _=if b.a≤q∧q<b.a+b.k then true else m.f q
  rw [h1,h2,if_neg (by omega)]
theorem CInv.ins {m:Cm} (I:CInv m) {b:Blk} (hk:1≤b.k) (hf:FirstAt m.f b.k b.a) (hB:(b.c=-2∧b.u=0∧b.w=none)∨(b.c=-1∧b.u≤1∧b.w=none)∨(∃ c:Nat,c<16∧b.c=(c:Int)∧b.k=pageT.getD c 0∧b.u<2^cellT.getD c 0))
  (hw:b.w=none):CInv (m.ins b):=by
 have hlt:b.a+b.k≤m.n:=by
  rcases Nat.lt_or_ge m.n (b.a+b.k) with q | q
  ·have h1:=hf.1 (b.k-1) (by omega)
   rw [f_out m (by omega)] at h1;cases h1
  ·exact q
 have hfree:∀ q,b.a≤q→q<b.a+b.k→m.f q=true:=fun q q1 q2=>by have:=hf.1 (q-b.a) (by omega);rwa [show b.a+(q-b.a)=q by omega] at this
 refine ⟨?_,fun x hx=>?_,fun x y p hx hy wx wy hc=>?_,fun x p hx wx=>?_⟩
 ·rw [ins_sp]
  refine I.S.ins (s:=b.sp) hk hlt hfree fun q=>?_
  rcases Nat.lt_or_ge q m.n with hq | hq
  ·have h1:=f_false (m.ins b) (q:=q) hq
   have h2:=f_false m hq
   by_cases c:b.a≤q∧q<b.a+b.k
   ·show _=if b.a≤q∧q<b.a+b.k then false else m.f q
    rw [if_pos c]
    exact h1.2 ⟨b,mem_insB.2 (.inl rfl),c⟩
   ·show _=if b.a≤q∧q<b.a+b.k then false else m.f q
    rw [if_neg c]
    have:(m.ins b).f q=false↔m.f q=false:=by
     rw [h1,h2]
     constructor
     ·rintro ⟨x,hx,h⟩
      rcases mem_insB.1 hx with rfl | e
      ·exact absurd h c
      ·exact ⟨x,e,h⟩
     ·rintro ⟨x,hx,h⟩;exact ⟨x,mem_insB.2 (.inr hx),h⟩
    cases e1:(m.ins b).f q<;>cases e2:m.f q<;>simp [e1,e2] at this<;>rfl
  ·show _=if b.a≤q∧q<b.a+b.k then false else m.f q
   rw [f_out (m.ins b) hq,f_out m hq];split<;>rfl
 ·rcases mem_insB.1 hx with rfl | e
  ·exact hB
  ·exact I.B x e
 ·rcases mem_insB.1 hx with rfl | e1
  ·rw [hw] at wx;cases wx
  ·rcases mem_insB.1 hy with rfl | e2
   ·rw [hw] at wy;cases wy
   ·exact I.H x y p e1 e2 wx wy hc
 ·rcases mem_insB.1 hx with rfl | e1
  ·rw [hw] at wx;cases wx
  ·exact I.P x p e1 wx
theorem CInv.new {m:Cm} (I:CInv m) {b:Blk} (hk:1≤b.k) (hf:FirstAt m.f b.k b.a):∀ x,x∈m.bl→x.a≠b.a:=fun x hx e=>by
 have h0:=hf.1 0 hk
 have hb:=I.bd hx
 have:=(f_false m (q:=b.a) (by omega)).2 ⟨x,hx,by omega,by omega⟩
 rw [Nat.add_zero,this] at h0;cases h0
end Go.Proofs.YthillgheddpmhaaDoor.Pg
namespace Go.Proofs.YthillgheddpmhaaDoor.Pg
open Go Go.AM Go.Proofs.YthillgheddpmhaaDoor.AmGJ
open Nat (reduceAdd reduceLeDiff reduceEqDiff)
open Int (reduceToNat reduceEq reduceLE)
abbrev szV:List AVal:=[.int .i64 1,.int .i64 2,.int .i64 3,.int .i64 4,.int .i64 5,.int .i64 6,.int .i64 8,.int .i64 10,.int .i64 12,.int .i64 16,.int .i64 20,.int .i64 24,.int .i64 32,.int .i64 40,.int .i64 48,.int .i64 64]
theorem szV_at {c:Nat} (h:c<16):szV[c]?=some (.int .i64 ((sizeT.getD c 0:Nat):Int)):=by
 have e:szV=sizeT.map fun n:Nat=>AVal.int .i64 (n:Int):=rfl
 have hl:c<sizeT.length:=h
 rw [e,List.getElem?_map,List.getD_eq_getElem?_getD,List.getElem?_eq_getElem hl];rfl
theorem sizesS {h:AHeap}:CallP AP 86 [] h fun r h'=>HFrame h h' [] []∧r=.agg szV:=by
 refine callP (rfl:Tr.get AP 86=some A86) ?_
 generalize hQ:(fun (r:AVal) (h':AHeap)=>_)=Q
 simp -implicitDefEqProofs (disch:=first|exact dz _|fail) only [↓AM.R0,AM.R1,AM.R2,reduceAdd,reduceLeDiff,reduceEqDiff,reduceToNat,Nat.reduceLT,↓reduceIte,reduceEq,Int.reduceLT,reduceLE]
 subst hQ
 exact ⟨((HFrame.refl (h:=h) (F:=[]) (by simp)).pushTmp _).setTmp (Nat.le_refl _) _,rfl⟩
theorem countC {h:AHeap}:CallP AP 65 [] h fun r h'=>HFrame h h' [] []∧r=.int .i64 16:=by
 refine callP (rfl:Tr.get AP 65=some A65) ?_
 generalize hQ:(fun (r:AVal) (h':AHeap)=>_)=Q
 simp -implicitDefEqProofs (disch:=first|exact dz _|fail) only [↓AM.R0,AM.R1,AM.R2,reduceAdd,reduceLeDiff,reduceEqDiff,reduceToNat,Nat.reduceLT,↓reduceIte,reduceEq,Int.reduceLT,reduceLE]
 refine AM.callI_of sizesS ?_
 rintro r h2 ⟨f2,rfl⟩
 simp -implicitDefEqProofs (disch:=first|exact dz _|fail) only [↓AM.R0,AM.R1,AM.R2,reduceAdd,reduceLeDiff,reduceEqDiff,reduceToNat,Nat.reduceLT,↓reduceIte,reduceEq,Int.reduceLT,reduceLE]
 subst hQ
 exact ⟨f2,rfl⟩
theorem wordsC {h:AHeap} {c:Nat} (hc:c<16):CallP AP 90 [.int .i64 (c:Int)] h fun r h'=>HFrame h h' [] []∧r=.int .i64 ((sizeT.getD c 0:Nat):Int):=by
 refine callP (rfl:Tr.get AP 90=some A90) ?_
 generalize hQ:(fun (r:AVal) (h':AHeap)=>_)=Q
 have d1:decide ((c:Int)<0)=false:=decide_eq_false (by omega)
 have d2:decide ((16:Int)≤(c:Int))=false:=decide_eq_false (by omega)
 simp -implicitDefEqProofs (disch:=first|exact dz _|fail) only [↓AM.R0,AM.R1,AM.R2,reduceAdd,reduceLeDiff,reduceEqDiff,reduceToNat,Nat.reduceLT,↓reduceIte,reduceEq,Int.reduceLT,reduceLE,d1]
 refine AM.callI_of countC ?_
 rintro r h2 ⟨f2,rfl⟩
 simp -implicitDefEqProofs (disch:=first|exact dz _|fail) only [↓AM.R0,AM.R1,AM.R2,reduceAdd,reduceLeDiff,reduceEqDiff,reduceToNat,Nat.reduceLT,↓reduceIte,reduceEq,Int.reduceLT,reduceLE,d2]
 refine AM.callI_of sizesS ?_
 rintro r h3 ⟨f3,rfl⟩
 have e:=szV_at hc
 have e2:inV h3 1 16 none (.agg szV) (.int .i64 (c:Int))=some (.int .i64 ((sizeT.getD c 0:Nat):Int),h3):=by
  have:=in_agg (h:=h3) (cs:=szV) (esz:=1) (len:=16) (k:=.i64) (n:=(c:Int)) (by omega) (by omega)
  rw [this,Int.toNat_natCast,Nat.mul_one,e];rfl
 simp -implicitDefEqProofs (disch:=first|exact dz _|fail) only [↓AM.R0,AM.R1,AM.R2,reduceAdd,reduceLeDiff,reduceEqDiff,reduceToNat,Nat.reduceLT,↓reduceIte,reduceEq,Int.reduceLT,reduceLE,e2]
 subst hQ
 exact ⟨f2.trans f3,rfl⟩
theorem tabs (c:Nat) (h:c<16):1≤sizeT.getD c 0∧sizeT.getD c 0≤64∧1≤pageT.getD c 0∧pageT.getD c 0≤3∧1≤cellT.getD c 0∧cellT.getD c 0≤64∧pageT.getD c 0*64 / sizeT.getD c 0=cellT.getD c 0∧cellT.getD c 0*sizeT.getD c 0≤pageT.getD c 0*64:=by
 have:∀ c:Fin 16,1≤sizeT.getD c.1 0∧sizeT.getD c.1 0≤64∧1≤pageT.getD c.1 0∧pageT.getD c.1 0≤3∧1≤cellT.getD c.1 0∧cellT.getD c.1 0≤64∧pageT.getD c.1 0*64 / sizeT.getD c.1 0=cellT.getD c.1 0∧cellT.getD c.1 0*sizeT.getD c.1 0≤pageT.getD c.1 0*64:=by decide +kernel
 exact this ⟨c,h⟩
theorem pg_ok (c:Nat) (h:c<16):∀ x,1≤x→x≤pageT.getD c 0→(x*64%sizeT.getD c 0≤x*64 / 8↔x=pageT.getD c 0):=by
 have:∀ c:Fin 16,∀ x:Fin 4,1≤x.1→x.1≤pageT.getD c.1 0→(x.1*64%sizeT.getD c.1 0≤x.1*64 / 8↔x.1=pageT.getD c.1 0):=by decide +kernel
 intro x h1 h2
 have ht:=tabs c h
 exact this ⟨c,h⟩ ⟨x,by omega⟩ h1 h2
set_option maxHeartbeats 2000000 in
theorem pagesC {h:AHeap} {c:Nat} (hc:c<16):CallP AP 89 [.int .i64 (c:Int)] h fun r h'=>HFrame h h' [] []∧r=.int .i64 ((pageT.getD c 0:Nat):Int):=by
 refine callP (rfl:Tr.get AP 89=some A89) ?_
 generalize hQ:(fun (r:AVal) (h':AHeap)=>_)=Q
 obtain ⟨t1,t2,t3,t4,_⟩:=tabs c hc
 have ok:=pg_ok c hc
 simp -implicitDefEqProofs (disch:=first|exact dz _|fail) only [↓AM.R0,AM.R1,AM.R2,reduceAdd,reduceLeDiff,reduceEqDiff,reduceToNat,Nat.reduceLT,↓reduceIte,reduceEq,Int.reduceLT,reduceLE]
 refine AM.callI_of (wordsC hc) ?_
 rintro r h2 ⟨f2,rfl⟩
 generalize sizeT.getD c 0=w at *
 generalize pageT.getD c 0=q at *
 have d1:decide ((w:Int)=0)=false:=decide_eq_false (by omega)
 simp -implicitDefEqProofs (disch:=first|exact dz _|fail) only [↓AM.R0,AM.R1,AM.R2,reduceAdd,reduceLeDiff,reduceEqDiff,reduceToNat,Nat.reduceLT,↓reduceIte,reduceEq,Int.reduceLT,reduceLE,d1]
 refine AM.loopI_of (fun k e h'=>∃ x:Nat,k+x=q∧1≤x∧h'=h2∧e.val 3=.int .i64 (w:Int)∧e.val 4=.int .i64 (x:Int)) (q-1) ?_ ?_
 ·refine ⟨1,by omega,by omega,rfl,?_,?_⟩<;>(simp -implicitDefEqProofs (disch:=first|exact dz _|fail) only [↓AM.R0,AM.R1,AM.R2,reduceAdd,reduceLeDiff,reduceEqDiff,reduceToNat,Nat.reduceLT,↓reduceIte,reduceEq,Int.reduceLT,reduceLE])<;>rfl
 ·rintro k e h' ⟨x,hk,hx,hh,y3,y4⟩
  rw [hh]
  have w1:IntKind.i64.wrap ((x:Int)*64)=((x*64:Nat):Int):=(wrap64 (by omega) (by omega)).trans (by omega)
  have w2:((x*64:Nat):Int).tmod (w:Int)=((x*64%w:Nat):Int):=rfl
  have w3:((x*64:Nat):Int).tdiv 8=((x*64 / 8:Nat):Int):=rfl
  have w4:IntKind.i64.wrap ((x*64 / 8:Nat):Int)=((x*64 / 8:Nat):Int):=wrap64 (by omega) (by omega)
  have w5:IntKind.i64.wrap ((x:Int)+1)=((x+1:Nat):Int):=(wrap64 (by omega) (by omega)).trans (by omega)
  have hw:(w:Int)≠0:=by omega
  have dd:decide (((x*64%w:Nat):Int)≤((x*64 / 8:Nat):Int))=decide (x=q):=decide_eq_decide.2 (by rw [←ok x hx (by omega)];omega)
  generalize x*64%w=X at *
  generalize x*64 / 8=Y at *
  simp -implicitDefEqProofs (disch:=first|exact dz _|fail) only [↓AM.R0,AM.R1,AM.R2,reduceAdd,reduceLeDiff,reduceEqDiff,reduceToNat,Nat.reduceLT,↓reduceIte,reduceEq,Int.reduceLT,reduceLE,y3,y4,w1,w2,w3,w4,dd]
  refine AM.cI_bool (fun hb=>?_) (fun hb=>?_)
  ·obtain rfl:x=q:=by simpa using hb
   simp -implicitDefEqProofs (disch:=first|exact dz _|fail) only [↓AM.R0,AM.R1,AM.R2,reduceAdd,reduceLeDiff,reduceEqDiff,reduceToNat,Nat.reduceLT,↓reduceIte,reduceEq,Int.reduceLT,reduceLE,y4]
   subst hQ
   exact ⟨f2,rfl⟩
  ·have hb:x≠q:=by simpa using hb
   simp -implicitDefEqProofs (disch:=first|exact dz _|fail) only [↓AM.R0,AM.R1,AM.R2,reduceAdd,reduceLeDiff,reduceEqDiff,reduceToNat,Nat.reduceLT,↓reduceIte,reduceEq,Int.reduceLT,reduceLE,y3,y4,w5]
   exact ⟨k-1,by omega,x+1,by omega,by omega,rfl⟩
theorem cellsC {h:AHeap} {c:Nat} (hc:c<16):CallP AP 98 [.int .i64 (c:Int)] h fun r h'=>HFrame h h' [] []∧r=.int .i64 ((cellT.getD c 0:Nat):Int):=by
 refine callP (rfl:Tr.get AP 98=some A98) ?_
 generalize hQ:(fun (r:AVal) (h':AHeap)=>_)=Q
 obtain ⟨t1,t2,t3,t4,t5,t6,t7,_⟩:=tabs c hc
 simp -implicitDefEqProofs (disch:=first|exact dz _|fail) only [↓AM.R0,AM.R1,AM.R2,reduceAdd,reduceLeDiff,reduceEqDiff,reduceToNat,Nat.reduceLT,↓reduceIte,reduceEq,Int.reduceLT,reduceLE]
 refine AM.callI_of (wordsC hc) ?_
 rintro r h2 ⟨f2,rfl⟩
 have d1:decide (((sizeT.getD c 0:Nat):Int)=0)=false:=decide_eq_false (by omega)
 simp -implicitDefEqProofs (disch:=first|exact dz _|fail) only [↓AM.R0,AM.R1,AM.R2,reduceAdd,reduceLeDiff,reduceEqDiff,reduceToNat,Nat.reduceLT,↓reduceIte,reduceEq,Int.reduceLT,reduceLE,d1]
 refine AM.callI_of (pagesC hc) ?_
 rintro r h3 ⟨f3,rfl⟩
 have w1:IntKind.i64.wrap (((pageT.getD c 0:Nat):Int)*64)=((pageT.getD c 0*64:Nat):Int):=(wrap64 (by omega) (by omega)).trans (by omega)
 simp -implicitDefEqProofs (disch:=first|exact dz _|fail) only [↓AM.R0,AM.R1,AM.R2,reduceAdd,reduceLeDiff,reduceEqDiff,reduceToNat,Nat.reduceLT,↓reduceIte,reduceEq,Int.reduceLT,reduceLE,w1]
 refine AM.callI_of (wordsC hc) ?_
 rintro r h4 ⟨f4,rfl⟩
 have w2:((pageT.getD c 0*64:Nat):Int).tdiv ((sizeT.getD c 0:Nat):Int)=((cellT.getD c 0:Nat):Int):=by rw [←t7];rfl
 have w3:IntKind.i64.wrap ((cellT.getD c 0:Nat):Int)=((cellT.getD c 0:Nat):Int):=wrap64 (by omega) (by omega)
 have hw:((sizeT.getD c 0:Nat):Int)≠0:=by omega
 simp -implicitDefEqProofs (disch:=first|exact dz _|fail) only [↓AM.R0,AM.R1,AM.R2,reduceAdd,reduceLeDiff,reduceEqDiff,reduceToNat,Nat.reduceLT,↓reduceIte,reduceEq,Int.reduceLT,reduceLE,w2,w3]
 subst hQ
 exact ⟨(f2.trans f3).trans f4,rfl⟩
theorem ofC2 {h:AHeap} {w:Nat} (h1:64<w):CallP AP 66 [.int .i64 (w:Int)] h fun r h'=>h'=h∧r=.tup [.int .i64 0,.int .i64 2]:=by
 refine callP (rfl:Tr.get AP 66=some A66) ?_
 generalize hQ:(fun (r:AVal) (h':AHeap)=>_)=Q
 have d1:decide ((w:Int)<1)=false:=decide_eq_false (by omega)
 have d2:decide ((64:Int)<(w:Int))=true:=decide_eq_true (by omega)
 simp -implicitDefEqProofs (disch:=first|exact dz _|fail) only [↓AM.R0,AM.R1,AM.R2,reduceAdd,reduceLeDiff,reduceEqDiff,reduceToNat,Nat.reduceLT,↓reduceIte,reduceEq,Int.reduceLT,reduceLE,d1,d2]
 subst hQ
 exact ⟨rfl,rfl⟩
theorem cls_ok (w:Nat) (h1:1≤w) (h2:w≤64):clsOf w<16∧∀ m,m<16→(sizeT.getD m 0<w↔m<clsOf w):=by
 have:∀ w:Fin 65,1≤w.1→clsOf w.1<16∧∀ m:Fin 16,(sizeT.getD m.1 0<w.1↔m.1<clsOf w.1):=by decide +kernel
 obtain ⟨a,b⟩:=this ⟨w,by omega⟩ h1
 exact ⟨a,fun m hm=>b ⟨m,hm⟩⟩
set_option maxHeartbeats 2000000 in
theorem ofC {h:AHeap} {w:Int} (h1:1≤w) (h2:w≤64):CallP AP 66 [.int .i64 w] h fun r h'=>HFrame h h' [] []∧r=.tup [.int .i64 (clsOf w.toNat:Nat),.int .i64 0]:=by
 refine callP (rfl:Tr.get AP 66=some A66) ?_
 generalize hQ:(fun (r:AVal) (h':AHeap)=>_)=Q
 obtain ⟨w,rfl⟩:∃ x:Nat,w=x:=⟨w.toNat,by omega⟩
 rw [Int.toNat_natCast] at hQ
 obtain ⟨c1,c2⟩:=cls_ok w (by omega) (by omega)
 have d1:decide ((w:Int)<1)=false:=decide_eq_false (by omega)
 have d2:decide ((64:Int)<(w:Int))=false:=decide_eq_false (by omega)
 simp -implicitDefEqProofs (disch:=first|exact dz _|fail) only [↓AM.R0,AM.R1,AM.R2,reduceAdd,reduceLeDiff,reduceEqDiff,reduceToNat,Nat.reduceLT,↓reduceIte,reduceEq,Int.reduceLT,reduceLE,d1,d2]
 refine AM.callI_of sizesS ?_
 rintro r h3 ⟨f3,rfl⟩
 simp -implicitDefEqProofs (disch:=first|exact dz _|fail) only [↓AM.R0,AM.R1,AM.R2,reduceAdd,reduceLeDiff,reduceEqDiff,reduceToNat,Nat.reduceLT,↓reduceIte,reduceEq,Int.reduceLT,reduceLE]
 have F:HFrame h ((h3.push (.cells 0 false [.int .i64 0,.int .i64 0,.int .i64 0,.int .i64 0,.int .i64 0,.int .i64 0,.int .i64 0,.int .i64 0,.int .i64 0,.int .i64 0,.int .i64 0,.int .i64 0,.int .i64 0,.int .i64 0,.int .i64 0,.int .i64 0])).set h3.n (.cells 0 false szV)) [] []:=(f3.pushTmp _).setTmp f3.n _
 have g0:((h3.push (.cells 0 false [.int .i64 0,.int .i64 0,.int .i64 0,.int .i64 0,.int .i64 0,.int .i64 0,.int .i64 0,.int .i64 0,.int .i64 0,.int .i64 0,.int .i64 0,.int .i64 0,.int .i64 0,.int .i64 0,.int .i64 0,.int .i64 0])).set h3.n (.cells 0 false szV)).get h3.n=.cells 0 false szV:=AHeap.get_set_same _ _ _
 have n0:h3.n<((h3.push (.cells 0 false [.int .i64 0,.int .i64 0,.int .i64 0,.int .i64 0,.int .i64 0,.int .i64 0,.int .i64 0,.int .i64 0,.int .i64 0,.int .i64 0,.int .i64 0,.int .i64 0,.int .i64 0,.int .i64 0,.int .i64 0,.int .i64 0])).set h3.n (.cells 0 false szV)).n:=by simp
 generalize ((h3.push _).set h3.n _)=h4 at *
 refine AM.loopI_of (fun k e h'=>∃ lo hi:Nat,k+lo=hi∧lo≤clsOf w∧clsOf w≤hi∧hi≤15∧h'=h4∧e.val 0=.int .i64 (w:Int)∧e.val 4=.ptr h3.n 0 0∧e.val 5=.int .i64 (lo:Int)∧e.val 6=.int .i64 (hi:Int)) 15 ?_ ?_
 ·refine ⟨0,15,by omega,by omega,by omega,by omega,rfl,?_,?_,?_,?_⟩<;>(simp -implicitDefEqProofs (disch:=first|exact dz _|fail) only [↓AM.R0,AM.R1,AM.R2,reduceAdd,reduceLeDiff,reduceEqDiff,reduceToNat,Nat.reduceLT,↓reduceIte,reduceEq,Int.reduceLT,reduceLE])<;>rfl
 ·rintro k e h' ⟨lo,hi,hk,hl,hh,h15,he,y0,y4,y5,y6⟩
  rw [he]
  simp -implicitDefEqProofs (disch:=first|exact dz _|fail) only [↓AM.R0,AM.R1,AM.R2,reduceAdd,reduceLeDiff,reduceEqDiff,reduceToNat,Nat.reduceLT,↓reduceIte,reduceEq,Int.reduceLT,reduceLE,y5,y6]
  refine AM.cI_bool (fun hb=>?_) (fun hb=>?_)
  ·have hb:lo<hi:=by simp only [decide_eq_true_eq] at hb;omega
   have w1:IntKind.i64.wrap ((lo:Int)+(hi:Int))=((lo+hi:Nat):Int):=(wrap64 (by omega) (by omega)).trans (by omega)
   have w2:((lo+hi:Nat):Int).tdiv 2=(((lo+hi) / 2:Nat):Int):=rfl
   have w3:IntKind.i64.wrap (((lo+hi) / 2:Nat):Int)=(((lo+hi) / 2:Nat):Int):=wrap64 (by omega) (by omega)
   have m1:lo≤(lo+hi) / 2:=by omega
   have m2:(lo+hi) / 2<hi:=by omega
   generalize (lo+hi) / 2=m at *
   have e1:=szV_at (c:=m) (by omega)
   have e2:=c2 m (by omega)
   have w4:IntKind.i64.wrap ((m:Int)+1)=((m+1:Nat):Int):=(wrap64 (by omega) (by omega)).trans (by omega)
   have xa:iaV h4 1 16 (.ptr h3.n 0 0) (.int .i64 (m:Int))=some (.ptr h3.n 0 m,h4):=by rw [ia_ptr (h:=h4) (id:=h3.n) (g:=0) (off:=0) (esz:=1) (len:=16) (k:=.i64) (n:=(m:Int)) (by omega) (by omega)];simp
   simp -implicitDefEqProofs (disch:=first|exact dz _|fail) only [↓AM.R0,AM.R1,AM.R2,reduceAdd,reduceLeDiff,reduceEqDiff,reduceToNat,Nat.reduceLT,↓reduceIte,reduceEq,Int.reduceLT,reduceLE,y0,y4,y5,y6,w1,w2,w3,xa,g0,e1]
   refine AM.cI_bool (fun hc=>?_) (fun hc=>?_)
   ·have hc:sizeT.getD m 0<w:=by simp only [decide_eq_true_eq] at hc;omega
    simp -implicitDefEqProofs (disch:=first|exact dz _|fail) only [↓AM.R0,AM.R1,AM.R2,reduceAdd,reduceLeDiff,reduceEqDiff,reduceToNat,Nat.reduceLT,↓reduceIte,reduceEq,Int.reduceLT,reduceLE,w4]
    exact ⟨hi-(m+1),by omega,m+1,hi,by omega,by omega,by omega,by omega,y0,y4,rfl,y6⟩
   ·have hc:¬ sizeT.getD m 0<w:=by simp only [decide_eq_false_iff_not] at hc;omega
    simp -implicitDefEqProofs (disch:=first|exact dz _|fail) only [↓AM.R0,AM.R1,AM.R2,reduceAdd,reduceLeDiff,reduceEqDiff,reduceToNat,Nat.reduceLT,↓reduceIte,reduceEq,Int.reduceLT,reduceLE]
    exact ⟨m-lo,by omega,lo,m,by omega,by omega,by omega,by omega,y0,y4,y5,rfl⟩
  ·have hb:¬ lo<hi:=by simp only [decide_eq_false_iff_not] at hb;omega
   simp -implicitDefEqProofs (disch:=first|exact dz _|fail) only [↓AM.R0,AM.R1,AM.R2,reduceAdd,reduceLeDiff,reduceEqDiff,reduceToNat,Nat.reduceLT,↓reduceIte,reduceEq,Int.reduceLT,reduceLE,y5]
   subst hQ
   exact ⟨F,by rw [show clsOf w=lo by omega]⟩
end Go.Proofs.YthillgheddpmhaaDoor.Pg
namespace Go.Proofs.YthillgheddpmhaaDoor.Pg
open Go Go.AM Go.Proofs.YthillgheddpmhaaDoor.AmGJ
open Nat (reduceAdd reduceLeDiff reduceEqDiff)
open Int (reduceToNat reduceEq reduceLE)
/-! Maps. -/
def lkV (h:AHeap) (kk:LK) (zero:AVal) (ok:Bool) (m k:AVal):Option (AVal×AHeap):=match m with
  | .nilm=>some (if ok then .tup [zero,.bool false] else zero,h)
  | .map id=>match h.get id with
   | .map es=>(findK kk k es).bind fun r=>match r with | some (_,v)=>some (if ok then .tup [v,.bool true] else v,h) | none=>some (if ok then .tup [zero,.bool false] else zero,h)
   | _=>none
  | _=>none
theorem a_lookup (e:Env) (h:AHeap) (kk:LK) (z:AVal) (ok:Bool) (m k:AOpd):aop e h (.lookup kk z ok m k)=lkV h kk z ok (opd e m) (opd e k):=by
 show opLookup e h kk z ok m k=_
 unfold opLookup lkV
 cases opd e m<;>rfl
def muV (h:AHeap) (kk:LK) (m k v:AVal):Option (AVal×AHeap):=match m with
  | .map id=>match h.get id with
   | .map es=>if v.cell=true then (findK kk k es).map fun r=>match r with
     | some (i,_)=>(.undef,h.set id (.map (es.modify i fun p=>(p.1,v))))
     | none=>(.undef,h.set id (.map (es++[(k,v)]))) else none
   | _=>none
  | _=>none
theorem a_mapUpd (e:Env) (h:AHeap) (kk:LK) (m k v:AOpd):aop e h (.mapUpd kk m k v)=muV h kk (opd e m) (opd e k) (opd e v):=by
 show opMapUpd e h kk m k v=_
 unfold opMapUpd muV
 cases opd e m<;>rfl
def mdV (h:AHeap) (kk:LK) (m k:AVal):Option (AVal×AHeap):=match m with
  | .map id=>match h.get id with
   | .map es=>(findK kk k es).map fun r=>match r with
     | some (i,_)=>(.undef,h.set id (.map (es.eraseIdx i)))
     | none=>(.undef,h)
   | _=>none
  | _=>none
theorem a_delete (e:Env) (h:AHeap) (kk:LK) (m k:AOpd):aop e h (.delete kk m k)=mdV h kk (opd e m) (opd e k):=by
 show opDelete e h kk m k=_
 unfold opDelete mdV
 cases opd e m<;>rfl
theorem a_mkMap (e:Env) (h:AHeap):aop e h .mkMap=some (.map h.n,h.push (.map [])):=rfl
def ent (ι:Nat→Nat) (a:Nat):AVal×AVal:=(.int .i64 (a:Int),.ptr (ι a) 0 0)
theorem lit64 (a b:Nat):litEq .int (.int .i64 (a:Int)) (.int .i64 (b:Int))=some (a==b):=by
 simp only [litEq,if_true]
 congr 1
 by_cases e:a=b
 ·subst e;simp
 ·rw [beq_false_of_ne e,beq_false_of_ne (by omega)]
theorem find_ent (ι:Nat→Nat) (x:Nat):∀ bs:List Nat,bs.Nodup→(x ∉ bs→findK .int (.int .i64 (x:Int)) (bs.map (ent ι))=some none) ∧
  (x∈bs→∃ i,findK .int (.int .i64 (x:Int)) (bs.map (ent ι))=some (some (i,.ptr (ι x) 0 0))∧(bs.map (ent ι)).eraseIdx i=(bs.filter (· != x)).map (ent ι))
 | [],_=>⟨fun _=>rfl,fun h=>by simp at h⟩
 | a::bs,hn=>by
  rw [List.nodup_cons] at hn
  obtain ⟨i1,i2⟩:=find_ent ι x bs hn.2
  have e1:findK .int (.int .i64 (x:Int)) ((a::bs).map (ent ι))=if x=a then some (some (0,.ptr (ι a) 0 0)) else (findK .int (.int .i64 (x:Int)) (bs.map (ent ι))).map fun r=>r.map fun (i,v)=>(i+1,v):=by
   rw [List.map_cons,ent,findK,lit64]
   by_cases e:x=a
   ·rw [if_pos e,e,beq_self_eq_true]
   ·rw [if_neg e,beq_false_of_ne e]
  rw [e1]
  by_cases e:x=a
  ·subst e
   refine ⟨fun h=>absurd List.mem_cons_self h,fun _=>⟨0,by rw [if_pos rfl],?_⟩⟩
   rw [List.map_cons,List.eraseIdx_zero,List.tail_cons,List.filter_cons]
   have:(x != x)=false:=by simp
   rw [this,if_neg (by simp)]
   congr 1
   symm
   rw [List.filter_eq_self]
   intro y hy
   simp only [bne_iff_ne,ne_eq]
   rintro rfl
   exact hn.1 hy
  ·rw [if_neg e]
   refine ⟨fun h=>?_,fun h=>?_⟩
   ·rw [i1 fun q=>h (List.mem_cons_of_mem _ q)];rfl
   ·rcases List.mem_cons.1 h with q | q
    ·exact absurd q e
    ·obtain ⟨i,h1,h2⟩:=i2 q
     refine ⟨i+1,by rw [h1];rfl,?_⟩
     have:(a != x)=true:=by simp;exact fun q=>e q.symm
     rw [List.map_cons,List.eraseIdx_cons_succ,h2,List.filter_cons,this,if_pos rfl,List.map_cons]
theorem lk_in {h:AHeap} {id:Nat} {ι:Nat→Nat} {bs:List Nat} (g:h.get id=.map (bs.map (ent ι))) (hn:bs.Nodup) {x:Nat} (hx:x∈bs) (z:AVal):lkV h .int z false (.map id) (.int .i64 (x:Int))=some (.ptr (ι x) 0 0,h):=by
 obtain ⟨i,h1,_⟩:=(find_ent ι x bs hn).2 hx
 simp only [lkV,g,h1];rfl
theorem lk_out {h:AHeap} {id:Nat} {ι:Nat→Nat} {bs:List Nat} (g:h.get id=.map (bs.map (ent ι))) (hn:bs.Nodup) {x:Nat} (hx:x ∉ bs) (z:AVal):lkV h .int z false (.map id) (.int .i64 (x:Int))=some (z,h):=by
 have h1:=(find_ent ι x bs hn).1 hx
 simp only [lkV,g,h1];rfl
theorem mu_new {h:AHeap} {id:Nat} {ι:Nat→Nat} {bs:List Nat} (g:h.get id=.map (bs.map (ent ι))) (hn:bs.Nodup) {x:Nat} (hx:x ∉ bs) (i o:Nat):muV h .int (.map id) (.int .i64 (x:Int)) (.ptr i o 0)=some (.undef,h.set id (.map (bs.map (ent ι)++[(.int .i64 (x:Int),.ptr i o 0)]))):=by
 have h1:=(find_ent ι x bs hn).1 hx
 simp only [muV,g,h1];rfl
theorem md_in {h:AHeap} {id:Nat} {ι:Nat→Nat} {bs:List Nat} (g:h.get id=.map (bs.map (ent ι))) (hn:bs.Nodup) {x:Nat} (hx:x∈bs):mdV h .int (.map id) (.int .i64 (x:Int))=some (.undef,h.set id (.map ((bs.filter (· != x)).map (ent ι)))):=by
 obtain ⟨i,h1,h2⟩:=(find_ent ι x bs hn).2 hx
 simp only [mdV,g,h1,Option.map_some,h2]
/-! A room for cells in the heap. -/
def encB (b:Blk):List AVal:=[.int .i64 (b.a:Int),.int .i64 (b.k:Int),.int .i64 (b.c+1),.int .i64 b.c,.int .u64 (b.u:Int),.bool b.w.isSome]
structure CG where
 c:Nat
 t:Nat
 so:Nat
 oo:Nat
 mi:Nat
 hi:Nat
 hg:Nat
 p:PI
 ρ:Nat→Nat
 ι:Nat→Nat
 K:Nat→Nat
def hv (ι:Nat→Nat) (m:Cm) (p c:Nat):AVal:=match m.held p c with
 | some b=>.ptr (ι b.a) 0 0
 | none=>.nilp
def rowV (g:CG) (m:Cm) (p:Nat):List AVal:=(List.range 16).map (hv g.ι m p)
def holdV (g:CG) (m:Cm):List AVal:=(List.range m.pr).map fun p=>.sl (g.ρ p) 0 0 16 1
structure CellP (h:AHeap) (g:CG) (ws:List Nat) (lv:List (List Sm)) (bs:List Nat) (m:Cm) (cn wn:Int):Prop where
 I:CInv m
 T:TabP h g.t g.so g.oo g.p m.n ws lv m.L
 pr:m.pr≤8
 obj:h.get g.c=.cells 0 false [.ptr g.t 0 0,.map g.mi,.sl g.hi g.hg 0 m.pr 1,.int .i64 cn,.int .i64 wn]
 map:h.get g.mi=.map (bs.map (ent g.ι))
 bn:bs.Nodup
 bm:∀ a,a∈bs↔∃ b,b∈m.bl∧b.a=a∧b.c≠-2
 hold:h.get g.hi=.cells g.hg false (holdV g m)
 row:∀ p,p<m.pr→h.get (g.ρ p)=.cells 0 false (rowV g m p)
 blk:∀ b,b∈m.bl→b.c≠-2→h.get (g.ι b.a)=.cells 0 false (encB b)
 k0:∀ j,g.K j≠0→j≠0∧j<h.n
 kc:g.K g.c=1∧g.K g.mi=2∧g.K g.hi=3
 kr:∀ p,p<m.pr→g.K (g.ρ p)=4
 kb:∀ b,b∈m.bl→b.c≠-2→g.K (g.ι b.a)=5
 kt:∀ j,j∈g.p.F++[g.t,g.so,g.oo]→g.K j=6
 ir:∀ p q,p<m.pr→q<m.pr→g.ρ p=g.ρ q→p=q
 ib:∀ b b',b∈m.bl→b'∈ m.bl→b.c≠-2→b'.c≠-2→g.ι b.a=g.ι b'.a→b.a=b'.a
variable {h h':AHeap} {g g':CG} {ws:List Nat} {lv:List (List Sm)} {bs:List Nat} {m:Cm} {cn wn:Int}
theorem CellP.lt (R:CellP h g ws lv bs m cn wn) {j:Nat} (k:g.K j≠0):j<h.n:=(R.k0 j k).2
theorem CellP.keepD (R:CellP h g ws lv bs m cn wn) {A A':List Nat} (F:HFrame h h' A A') (d:∀ j,g.K j≠0→j ∉ A):CellP h' g ws lv bs m cn wn:=by
 have G:∀ j,g.K j≠0→h'.get j=h.get j:=fun j k=>F.get j (R.lt k) (d j k)
 obtain ⟨k1,k2,k3⟩:=R.kc
 exact ⟨R.I,R.T.keepD F fun j hj=>d j (by rw [R.kt j hj];decide),R.pr,(G _ (by rw [k1];decide)).trans R.obj,(G _ (by rw [k2];decide)).trans R.map,R.bn,R.bm,(G _ (by rw [k3];decide)).trans R.hold,
  fun p hp=>(G _ (by rw [R.kr p hp];decide)).trans (R.row p hp),fun b hb hc=>(G _ (by rw [R.kb b hb hc];decide)).trans (R.blk b hb hc),fun j k=>⟨(R.k0 j k).1,Nat.lt_of_lt_of_le (R.lt k) F.n⟩,R.kc,R.kr,R.kb,R.kt,R.ir,R.ib⟩
theorem CellP.keep (R:CellP h g ws lv bs m cn wn) {A':List Nat} (F:HFrame h h' [] A'):CellP h' g ws lv bs m cn wn:=R.keepD F fun _ _=>by simp
structure CFr (h h':AHeap) (g g':CG):Prop where
 n:h.n≤h'.n
 G:h'.g=h.g
 get:∀ j,j<h.n→g.K j=0→h'.get j=h.get j
 K:∀ j,j<h.n→g'.K j=g.K j
 c:g'.c=g.c
theorem CFr.refl (h:AHeap) (g:CG):CFr h h g g:=⟨Nat.le_refl _,rfl,fun _ _ _=>rfl,fun _ _=>rfl,rfl⟩
theorem CFr.trans {h1:AHeap} {g1:CG} (a:CFr h h1 g g1) (b:CFr h1 h' g1 g'):CFr h h' g g' :=
 ⟨Nat.le_trans a.n b.n,b.G.trans a.G,fun j hj k=>(b.get j (Nat.lt_of_lt_of_le hj a.n) ((a.K j hj).trans k)).trans (a.get j hj k),fun j hj=>(b.K j (Nat.lt_of_lt_of_le hj a.n)).trans (a.K j hj),b.c.trans a.c⟩
theorem CFr.left {h1:AHeap} (a:CFr h h1 g g') {A A':List Nat} (F:HFrame h1 h' A A') (d:∀ j,j∈A→j<h.n→g.K j≠0):CFr h h' g g' :=
 ⟨Nat.le_trans a.n F.n,F.g.trans a.G,fun j hj k=>(F.get j (Nat.lt_of_lt_of_le hj a.n) fun hm=>d j hm hj k).trans (a.get j hj k),a.K,a.c⟩
theorem CFr.tmp {h1:AHeap} (a:CFr h h1 g g') {A':List Nat} (F:HFrame h1 h' [] A'):CFr h h' g g':=a.left F (by simp)
theorem CFr.set {h1:AHeap} (a:CFr h h1 g g') {i:Nat} (d:i<h.n→g.K i≠0) (o:AObj):CFr h (h1.set i o) g g' :=
 ⟨a.n,a.G,fun j hj k=>by
  rw [AHeap.get_set_ne]
  ·exact a.get j hj k
  ·rintro rfl;exact d hj k,a.K,a.c⟩
theorem CFr.push {h1:AHeap} (a:CFr h h1 g g') (o:AObj):CFr h (h1.push o) g g' :=
 ⟨by have:=a.n;simp;omega,a.G,fun j hj k=>by rw [AHeap.get_push_ne _ _ (by have:=a.n;omega)];exact a.get j hj k,a.K,a.c⟩
def own (g:CG) (n:Nat):List Nat:=(List.range n).filter fun j=>g.K j != 0
theorem mem_own {n j:Nat}:j∈own g n↔j<n∧g.K j≠0:=by
 unfold own;rw [List.mem_filter,List.mem_range];simp
theorem CFr.toH (a:CFr h h' g g'):HFrame h h' (own g h.n) (own g' h'.n) :=
 ⟨a.n,a.G,fun j hj hm=>a.get j hj (by
  cases e:g.K j with
  | zero=>rfl
  | succ x=>exact absurd (mem_own.2 ⟨hj,by rw [e];simp⟩) hm),fun j hj=>by
  rcases Nat.lt_or_ge j h.n with c | c
  ·exact .inl (mem_own.2 ⟨c,by rw [←a.K j c];exact (mem_own.1 hj).2⟩)
  ·exact .inr c,fun j hj=>(mem_own.1 hj).1⟩
theorem CellP.tabF (R:CellP h g ws lv bs m cn wn):∀ j,j∈g.p.F++[g.t,g.so,g.oo]→j<h.n→g.K j≠0:=fun j hj _=>by rw [R.kt j hj];decide
theorem CellP.n0 (R:CellP h g ws lv bs m cn wn):0 ∉ g.p.F++[g.t,g.so,g.oo]:=fun hm=>(R.k0 0 (by rw [R.kt 0 hm];decide)).1 rfl
theorem CellP.f (R:CellP h g ws lv bs m cn wn):fw ws=m.f:=SInv.f_eq R.T.I R.T.K.out
end Go.Proofs.YthillgheddpmhaaDoor.Pg
namespace Go.Proofs.YthillgheddpmhaaDoor.Pg
open Go Go.AM Go.Proofs.YthillgheddpmhaaDoor.AmGJ
open Nat (reduceAdd reduceLeDiff reduceEqDiff)
open Int (reduceToNat reduceEq reduceLE)
variable {h h':AHeap} {g g':CG} {ws:List Nat} {lv:List (List Sm)} {bs:List Nat} {m:Cm} {cn wn:Int}
theorem hv_some (I:CInv m) (ι:Nat→Nat) {b:Blk} {p c:Nat} (hb:b∈m.bl) (h1:b.c=(c:Int)) (h2:b.w=some p):hv ι m p c=.ptr (ι b.a) 0 0:=by rw [hv,I.held hb h1 h2]
theorem hv_none (ι:Nat→Nat) {p c:Nat} (h:∀ b,b∈m.bl→¬ (b.c=(c:Int)∧b.w=some p)):hv ι m p c=.nilp:=by rw [hv,held_none.2 h]
theorem hv_same {m':Cm} (I:CInv m) (I':CInv m') (ι:Nat→Nat) {p c:Nat} (e:∀ a,(∃ b,b∈m.bl∧b.a=a∧b.c=(c:Int)∧b.w=some p)↔∃ b,b∈m'.bl∧b.a=a∧b.c=(c:Int)∧b.w=some p):hv ι m' p c=hv ι m p c:=by
 by_cases q:∃ b,b∈m.bl∧b.c=(c:Int)∧b.w=some p
 ·obtain ⟨b,h1,h2,h3⟩:=q
  obtain ⟨b',k1,k2,k3,k4⟩:=(e b.a).1 ⟨b,h1,rfl,h2,h3⟩
  rw [hv_some I ι h1 h2 h3,hv_some I' ι k1 k3 k4,k2]
 ·rw [hv_none ι fun b hb hh=>q ⟨b,hb,hh⟩,hv_none ι fun b hb hh=>?_]
  obtain ⟨b',k1,_,k3,k4⟩:=(e b.a).2 ⟨b,hb,rfl,hh⟩
  exact q ⟨b',k1,k3,k4⟩
theorem CellP.cnt (R:CellP h g ws lv bs m cn wn) (cn' wn':Int):CellP (h.set g.c (.cells 0 false [.ptr g.t 0 0,.map g.mi,.sl g.hi g.hg 0 m.pr 1,.int .i64 cn',.int .i64 wn'])) g ws lv bs m cn' wn':=by
 obtain ⟨k1,k2,k3⟩:=R.kc
 have G:∀ j,g.K j≠0→g.K j≠1→(h.set g.c (.cells 0 false [.ptr g.t 0 0,.map g.mi,.sl g.hi g.hg 0 m.pr 1,.int .i64 cn',.int .i64 wn'])).get j=h.get j:=fun j q1 q2=>by
  rw [AHeap.get_set_ne];rintro rfl;exact q2 k1
 have lc:g.c<h.n:=R.lt (by rw [k1];decide)
 have F:=HFrame.set h g.c (.cells 0 false [.ptr g.t 0 0,.map g.mi,.sl g.hi g.hg 0 m.pr 1,.int .i64 cn',.int .i64 wn']) (F:=[g.c]) (by simp) (by simpa using lc)
 exact ⟨R.I,R.T.keepD F fun j hj=>by simp;rintro rfl;have:=R.kt _ hj;omega,R.pr,AHeap.get_set_same _ _ _,(G _ (by omega) (by omega)).trans R.map,R.bn,R.bm,(G _ (by omega) (by omega)).trans R.hold,
  fun p hp=>(G _ (by rw [R.kr p hp];decide) (by rw [R.kr p hp];decide)).trans (R.row p hp),fun b hb hc=>(G _ (by rw [R.kb b hb hc];decide) (by rw [R.kb b hb hc];decide)).trans (R.blk b hb hc),fun j k=>by simpa using R.k0 j k,R.kc,R.kr,R.kb,R.kt,R.ir,R.ib⟩
theorem CellP.setU (R:CellP h g ws lv bs m cn wn) {b:Blk} (hb:b∈m.bl) (hc:b.c≠-2) {u:Nat} (I':CInv (m.upd b.a (Blk.setU u))):CellP (h.set (g.ι b.a) (.cells 0 false (encB (Blk.setU u b)))) g ws lv bs (m.upd b.a (Blk.setU u)) cn wn:=by
 obtain ⟨k1,k2,k3⟩:=R.kc
 have kb:=R.kb b hb hc
 have G:∀ j,g.K j≠5→(h.set (g.ι b.a) (.cells 0 false (encB (Blk.setU u b)))).get j=h.get j:=fun j q2=>by
  rw [AHeap.get_set_ne];rintro rfl;exact q2 kb
 have lc:g.ι b.a<h.n:=R.lt (by omega)
 have F:=HFrame.set h (g.ι b.a) (.cells 0 false (encB (Blk.setU u b))) (F:=[g.ι b.a]) (by simp) (by simpa using lc)
 have hbl:∀ x,x∈(m.upd b.a (Blk.setU u)).bl→∃ y,y∈m.bl∧y.a=x.a∧y.c=x.c∧y.w=x.w∧(x=y∧y.a≠b.a∨y=b∧x=Blk.setU u b):=fun x hx=>by
  rcases mem_upd.1 hx with ⟨y,hy,e,rfl⟩ | ⟨hy,e⟩
  ·obtain rfl:=R.I.same hy hb e
   exact ⟨y,hy,rfl,rfl,rfl,.inr ⟨rfl,rfl⟩⟩
  ·exact ⟨x,hy,rfl,rfl,rfl,.inl ⟨rfl,e⟩⟩
 have hhv:∀ p c,hv g.ι (m.upd b.a (Blk.setU u)) p c=hv g.ι m p c:=fun p c=>hv_same R.I I' g.ι fun a=>by
  constructor
  ·rintro ⟨x,hx,q1,q2,q3⟩
   by_cases e:x.a=b.a
   ·obtain rfl:=R.I.same hx hb e
    exact ⟨Blk.setU u x,mem_upd.2 (.inl ⟨x,hx,rfl,rfl⟩),q1,q2,q3⟩
   ·exact ⟨x,mem_upd.2 (.inr ⟨hx,e⟩),q1,q2,q3⟩
  ·rintro ⟨x,hx,q1,q2,q3⟩
   obtain ⟨y,hy,e1,e2,e3,_⟩:=hbl x hx
   exact ⟨y,hy,e1.trans q1,e2.trans q2,e3.trans q3⟩
 have hrow:∀ p,rowV g (m.upd b.a (Blk.setU u)) p=rowV g m p:=fun p=>by
  unfold rowV;exact List.map_congr_left fun c _=>hhv p c
 have hL:(m.upd b.a (Blk.setU u)).L=m.L:=upd_sp (sp_setU u)
 refine ⟨I',?_,R.pr,(G _ (by omega)).trans R.obj,(G _ (by omega)).trans R.map,R.bn,fun a=>?_,(G _ (by omega)).trans R.hold,fun p hp=>?_,fun x hx xc=>?_,fun j k=>by simpa using R.k0 j k,R.kc,R.kr,fun x hx xc=>?_,R.kt,R.ir,fun x y hx hy xc yc=>?_⟩
 ·rw [hL];exact R.T.keepD F fun j hj=>by simp;rintro rfl;have:=R.kt _ hj;omega
 ·rw [R.bm]
  constructor
  ·rintro ⟨x,hx,q1,q2⟩
   by_cases e:x.a=b.a
   ·obtain rfl:=R.I.same hx hb e
    exact ⟨Blk.setU u x,mem_upd.2 (.inl ⟨x,hx,rfl,rfl⟩),q1,q2⟩
   ·exact ⟨x,mem_upd.2 (.inr ⟨hx,e⟩),q1,q2⟩
  ·rintro ⟨x,hx,q1,q2⟩
   obtain ⟨y,hy,e1,e2,e3,_⟩:=hbl x hx
   exact ⟨y,hy,e1.trans q1,by rw [e2];exact q2⟩
 ·rw [hrow];exact (G _ (by rw [R.kr p hp];decide)).trans (R.row p hp)
 ·obtain ⟨y,hy,e1,e2,e3,⟨rfl,e4⟩ | ⟨rfl,rfl⟩⟩:=hbl x hx
  ·rw [AHeap.get_set_ne _ _ (fun e=>e4 (R.ib x b hy hb xc hc e))];exact R.blk x hy xc
  ·exact AHeap.get_set_same _ _ _
 ·obtain ⟨y,hy,e1,e2,e3,_⟩:=hbl x hx
  rw [←e1];exact R.kb y hy (by rw [e2];exact xc)
 ·obtain ⟨x',hx',e1,e2,_⟩:=hbl x hx
  obtain ⟨y',hy',f1,f2,_⟩:=hbl y hy
  rw [←e1,←f1];exact R.ib x' y' hx' hy' (by rw [e2];exact xc) (by rw [f2];exact yc)
theorem row_len (g:CG) (m:Cm) (p:Nat):(rowV g m p).length=16:=by simp [rowV]
theorem row_at (g:CG) (m:Cm) (p:Nat) {c:Nat} (hc:c<16):(rowV g m p)[c]?=some (hv g.ι m p c):=by
 unfold rowV;rw [List.getElem?_map,List.getElem?_range hc];rfl
theorem row_set {g:CG} {m m':Cm} {p c:Nat} {v:AVal} (hc:c<16) (h1:hv g.ι m' p c=v) (h2:∀ d,d≠c→hv g.ι m' p d=hv g.ι m p d):(rowV g m p).take c++[v]++(rowV g m p).drop (c+1)=rowV g m' p:=by
 have e:rowV g m' p=(rowV g m p).set c v:=by
  apply List.ext_getElem?
  intro i
  rw [List.getElem?_set]
  by_cases hi:i<16
  ·rw [row_at g m' p hi]
   by_cases e:c=i
   ·subst e;rw [if_pos rfl,if_pos (by rw [row_len];exact hc),h1]
   ·rw [if_neg e,row_at g m p hi,h2 i (Ne.symm e)]
  ·rw [List.getElem?_eq_none (by rw [row_len];omega)]
   by_cases e:c=i
   ·omega
   ·rw [if_neg e,List.getElem?_eq_none (by rw [row_len];omega)]
 rw [e,List.set_eq_take_append_cons_drop,if_pos (by rw [row_len];exact hc),List.append_assoc];rfl
def pv (w:Option Nat) (i:Nat):AVal:=match w with
 | none=>.nilp
 | some _=>.ptr i 0 0
theorem CellP.setW (R:CellP h g ws lv bs m cn wn) {b:Blk} (hb:b∈m.bl) {c p:Nat} (hc:b.c=(c:Int)) (hc16:c<16) (hp:p<m.pr) {w:Option Nat}
  (hw:(b.w=some p∧w=none)∨(b.w=none∧w=some p∧m.held p c=none)) :
  CInv (m.upd b.a (Blk.setW w))∧CellP ((h.set (g.ι b.a) (.cells 0 false (encB (Blk.setW w b)))).set (g.ρ p) (.cells 0 false ((rowV g m p).take c++[pv w (g.ι b.a)]++(rowV g m p).drop (c+1)))) g ws lv bs (m.upd b.a (Blk.setW w)) cn wn:=by
 obtain ⟨k1,k2,k3⟩:=R.kc
 have hc2:b.c≠-2:=by omega
 have kb:=R.kb b hb hc2
 have kp:=R.kr p hp
 have I':CInv (m.upd b.a (Blk.setW w)):=R.I.setW hb hc fun q hq=>by
  rcases hw with ⟨_,e⟩ | ⟨_,e,e2⟩
  ·rw [e] at hq;cases hq
  ·rw [e] at hq;cases hq;exact ⟨hp,e2⟩
 refine ⟨I',?_⟩
 have hbl:∀ x,x∈(m.upd b.a (Blk.setW w)).bl→∃ y,y∈m.bl∧y.a=x.a∧y.c=x.c∧(x=y∧y.a≠b.a∨y=b∧x=Blk.setW w b):=fun x hx=>by
  rcases mem_upd.1 hx with ⟨y,hy,e,rfl⟩ | ⟨hy,e⟩
  ·obtain rfl:=R.I.same hy hb e
   exact ⟨y,hy,rfl,rfl,.inr ⟨rfl,rfl⟩⟩
  ·exact ⟨x,hy,rfl,rfl,.inl ⟨rfl,e⟩⟩
 have hother:∀ q d,(q≠p∨d≠c)→hv g.ι (m.upd b.a (Blk.setW w)) q d=hv g.ι m q d:=fun q d hqd=>hv_same R.I I' g.ι fun a=>by
  constructor
  ·rintro ⟨x,hx,q1,q2,q3⟩
   by_cases e:x.a=b.a
   ·obtain rfl:=R.I.same hx hb e
    exfalso
    rcases hw with ⟨e1,_⟩ | ⟨e1,_⟩
    ·rw [e1] at q3;cases q3
     rcases hqd with z | z
     ·exact z rfl
     ·omega
    ·rw [e1] at q3;cases q3
   ·exact ⟨x,mem_upd.2 (.inr ⟨hx,e⟩),q1,q2,q3⟩
  ·rintro ⟨x,hx,q1,q2,q3⟩
   obtain ⟨y,hy,e1,e2,⟨rfl,e4⟩ | ⟨rfl,rfl⟩⟩:=hbl x hx
   ·exact ⟨x,hy,q1,q2,q3⟩
   ·exfalso
    rcases hw with ⟨_,e1⟩ | ⟨_,e1,_⟩
    ·have:w=some q:=q3
     rw [e1] at this;cases this
    ·have h3:w=some q:=q3
     have h4:y.c=(d:Int):=q2
     rw [e1] at h3;cases h3
     rcases hqd with z | z
     ·exact z rfl
     ·omega
 have hthis:hv g.ι (m.upd b.a (Blk.setW w)) p c=pv w (g.ι b.a):=by
  rcases hw with ⟨e0,e1⟩ | ⟨e0,e1,e2⟩
  ·have hz:hv g.ι (m.upd b.a (Blk.setW w)) p c=.nilp:=?_
   ·rw [hz,e1];rfl
   refine hv_none g.ι fun x hx hh=>?_
   obtain ⟨y,hy,f1,f2,⟨rfl,e4⟩ | ⟨rfl,rfl⟩⟩:=hbl x hx
   ·exact e4 (R.I.H x b p hy hb hh.2 e0 (hh.1.trans hc.symm))
   ·have:w=some p:=hh.2
    rw [e1] at this;cases this
  ·have:=hv_some I' g.ι (b:=Blk.setW w b) (p:=p) (c:=c) (mem_upd.2 (.inl ⟨b,hb,rfl,rfl⟩)) hc e1
   rw [this,e1];rfl
 have hrow:=row_set (g:=g) (m:=m) (m':=m.upd b.a (Blk.setW w)) (p:=p) hc16 hthis (fun d hd=>hother p d (.inr hd))
 have hL:(m.upd b.a (Blk.setW w)).L=m.L:=upd_sp (sp_setW w)
 rw [hrow]
 generalize hH:((h.set (g.ι b.a) (.cells 0 false (encB (Blk.setW w b)))).set (g.ρ p) (.cells 0 false (rowV g (m.upd b.a (Blk.setW w)) p)))=H
 have ne:g.ι b.a≠g.ρ p:=fun e=>by rw [e] at kb;omega
 have G:∀ j,j≠g.ι b.a→j≠g.ρ p→H.get j=h.get j:=fun j q1 q2=>by
  rw [←hH,AHeap.get_set_ne _ _ q2,AHeap.get_set_ne _ _ q1]
 have hn:H.n=h.n:=by rw [←hH];rfl
 have lc:g.ι b.a<h.n:=R.lt (by omega)
 have lp:g.ρ p<h.n:=R.lt (by omega)
 have F:HFrame h H [g.ι b.a,g.ρ p] [g.ι b.a,g.ρ p]:=⟨by omega,by rw [←hH];rfl,fun j hj hm=>G j (fun e=>hm (by simp [e])) (fun e=>hm (by simp [e])),fun j hj=>.inl hj,fun j hj=>by
  simp at hj;rcases hj with rfl | rfl<;>omega⟩
 have gp:H.get (g.ρ p)=.cells 0 false (rowV g (m.upd b.a (Blk.setW w)) p):=by rw [←hH];exact AHeap.get_set_same _ _ _
 have gb:H.get (g.ι b.a)=.cells 0 false (encB (Blk.setW w b)):=by rw [←hH,AHeap.get_set_ne _ _ ne];exact AHeap.get_set_same _ _ _
 clear hH
 have G2:∀ j,g.K j≠4→g.K j≠5→H.get j=h.get j:=fun j q1 q2=>G j (fun e=>q2 (by rw [e];exact kb)) (fun e=>q1 (by rw [e];exact kp))
 refine ⟨I',?_,R.pr,(G2 _ (by omega) (by omega)).trans R.obj,(G2 _ (by omega) (by omega)).trans R.map,R.bn,fun a=>?_,(G2 _ (by omega) (by omega)).trans R.hold,fun q hq=>?_,fun x hx xc=>?_,fun j k=>by rw [hn];exact R.k0 j k,R.kc,R.kr,fun x hx xc=>?_,R.kt,R.ir,fun x y hx hy xc yc=>?_⟩
 ·rw [hL];exact R.T.keepD F fun j hj=>by simp;exact ⟨by rintro rfl;have:=R.kt _ hj;omega,by rintro rfl;have:=R.kt _ hj;omega⟩
 ·rw [R.bm]
  constructor
  ·rintro ⟨x,hx,q1,q2⟩
   by_cases e:x.a=b.a
   ·obtain rfl:=R.I.same hx hb e
    exact ⟨Blk.setW w x,mem_upd.2 (.inl ⟨x,hx,rfl,rfl⟩),q1,q2⟩
   ·exact ⟨x,mem_upd.2 (.inr ⟨hx,e⟩),q1,q2⟩
  ·rintro ⟨x,hx,q1,q2⟩
   obtain ⟨y,hy,e1,e2,_⟩:=hbl x hx
   exact ⟨y,hy,e1.trans q1,by rw [e2];exact q2⟩
 ·by_cases e:q=p
  ·subst e;exact gp
  ·have kq:=R.kr q hq
   rw [G _ (fun z=>by rw [z] at kq;omega) (fun z=>e (R.ir q p hq hp z)),R.row q hq]
   congr 1
   unfold rowV
   exact (List.map_congr_left fun d _=>hother q d (.inl e)).symm
 ·obtain ⟨y,hy,e1,e2,⟨rfl,e4⟩ | ⟨rfl,rfl⟩⟩:=hbl x hx
  ·have kx:=R.kb x hy xc
   rw [G _ (fun e=>e4 (R.ib x b hy hb xc hc2 e)) (fun e=>by rw [e] at kx;omega)];exact R.blk x hy xc
  ·exact gb
 ·obtain ⟨y,hy,e1,e2,_⟩:=hbl x hx
  rw [←e1];exact R.kb y hy (by rw [e2];exact xc)
 ·obtain ⟨x',hx',e1,e2,_⟩:=hbl x hx
  obtain ⟨y',hy',f1,f2,_⟩:=hbl y hy
  rw [←e1,←f1];exact R.ib x' y' hx' hy' (by rw [e2];exact xc) (by rw [f2];exact yc)
theorem CellP.tab (R:CellP h g ws lv bs m cn wn) {m':Cm} {ws':List Nat} {lv':List (List Sm)} (I':CInv m') (hn:m'.n=m.n) (hp:m'.pr=m.pr) {A':List Nat} (F:HFrame h h' (g.p.F++[g.t,g.so,g.oo]) A') (T':TabP h' g.t g.so g.oo g.p m'.n ws' lv' m'.L)
  (hb:∀ b:Blk,b.c≠-2→(b∈m'.bl↔b∈m.bl)):CellP h' g ws' lv' bs m' cn wn:=by
 have G:∀ j,g.K j≠0→g.K j≠6→h'.get j=h.get j:=fun j k k6=>F.get j (R.lt k) fun hm=>k6 (R.kt j hm)
 obtain ⟨k1,k2,k3⟩:=R.kc
 have hhv:∀ p c,hv g.ι m' p c=hv g.ι m p c:=fun p c=>hv_same R.I I' g.ι fun a=>by
  constructor
  ·rintro ⟨x,hx,q1,q2,q3⟩;exact ⟨x,(hb x (by omega)).2 hx,q1,q2,q3⟩
  ·rintro ⟨x,hx,q1,q2,q3⟩;exact ⟨x,(hb x (by omega)).1 hx,q1,q2,q3⟩
 refine ⟨I',T',by rw [hp];exact R.pr,?_,(G _ (by omega) (by omega)).trans R.map,R.bn,fun a=>?_,?_,fun p hp'=>?_,fun x hx xc=>?_,fun j k=>⟨(R.k0 j k).1,Nat.lt_of_lt_of_le (R.lt k) F.n⟩,R.kc,fun p hp'=>R.kr p (by rw [←hp];exact hp'),fun x hx xc=>R.kb x ((hb x xc).1 hx) xc,R.kt,
  fun p q h1 h2=>R.ir p q (by rw [←hp];exact h1) (by rw [←hp];exact h2),fun x y hx hy xc yc=>R.ib x y ((hb x xc).1 hx) ((hb y yc).1 hy) xc yc⟩
 ·rw [hp];exact (G _ (by omega) (by omega)).trans R.obj
 ·rw [R.bm]
  constructor
  ·rintro ⟨x,hx,q1,q2⟩;exact ⟨x,(hb x q2).2 hx,q1,q2⟩
  ·rintro ⟨x,hx,q1,q2⟩;exact ⟨x,(hb x q2).1 hx,q1,q2⟩
 ·have:holdV g m'=holdV g m:=by unfold holdV;rw [hp]
  rw [this];exact (G _ (by omega) (by omega)).trans R.hold
 ·rw [hp] at hp'
  have:rowV g m' p=rowV g m p:=by unfold rowV;exact List.map_congr_left fun d _=>hhv p d
  rw [this]
  have k4:=R.kr p hp'
  exact (G _ (by omega) (by omega)).trans (R.row p hp')
 ·have k5:=R.kb x ((hb x xc).1 hx) xc
  exact (G _ (by omega) (by omega)).trans (R.blk x ((hb x xc).1 hx) xc)
def CG.put (g:CG) (a i:Nat):CG:={ g with ι:=fun x=>if x=a then i else g.ι x,K:=fun j=>if j=i then 5 else g.K j }
theorem CellP.insB (R:CellP h g ws lv bs m cn wn) {b:Blk} {i:Nat} {ws':List Nat} {lv':List (List Sm)} (I':CInv (m.ins b)) (hc:b.c≠-2) (hw:b.w=none) (new:∀ x,x∈m.bl→x.a≠b.a) (N:h.n≤h'.n) (hi:h.n≤i) (hi':i<h'.n)
  (G:∀ j,g.K j≠0→g.K j≠6→g.K j≠2→h'.get j=h.get j) (T':TabP h' g.t g.so g.oo g.p m.n ws' lv' (m.ins b).L) (gm:h'.get g.mi=.map (bs.map (ent g.ι)++[(.int .i64 (b.a:Int),.ptr i 0 0)])) (gb:h'.get i=.cells 0 false (encB b)) :
  CellP h' (g.put b.a i) ws' lv' (bs++[b.a]) (m.ins b) cn wn:=by
 obtain ⟨k1,k2,k3⟩:=R.kc
 have ki:g.K i=0:=by
  cases e:g.K i with
  | zero=>rfl
  | succ x=>have:=R.lt (j:=i) (by omega);omega
 have Ko:∀ j,g.K j≠0→(g.put b.a i).K j=g.K j:=fun j k=>if_neg (by rintro rfl;exact k ki)
 have Ki:(g.put b.a i).K i=5:=if_pos rfl
 have io:∀ x,x∈m.bl→(g.put b.a i).ι x.a=g.ι x.a:=fun x hx=>if_neg (new x hx)
 have ii:(g.put b.a i).ι b.a=i:=if_pos rfl
 have hnb:b.a ∉ bs:=fun hm=>by
  obtain ⟨x,hx,e,_⟩:=(R.bm b.a).1 hm
  exact new x hx e
 have mem:∀ x,x∈(m.ins b).bl↔x=b∨x∈m.bl:=fun x=>mem_insB
 have hhv:∀ p c,hv (g.put b.a i).ι (m.ins b) p c=hv g.ι m p c:=fun p c=>by
  have e1:hv (g.put b.a i).ι (m.ins b) p c=hv (g.put b.a i).ι m p c:=hv_same R.I I' (g.put b.a i).ι fun a=>by
   constructor
   ·rintro ⟨x,hx,q⟩;exact ⟨x,(mem x).2 (.inr hx),q⟩
   ·rintro ⟨x,hx,q⟩
    rcases (mem x).1 hx with rfl | e
    ·rw [hw] at q;cases q.2.2
    ·exact ⟨x,e,q⟩
  rw [e1]
  unfold hv
  cases e:m.held p c with
  | none=>rfl
  | some x=>show AVal.ptr _ 0 0=AVal.ptr _ 0 0;rw [io x (held_mem e).1]
 refine ⟨I',T',R.pr,(G g.c (by omega) (by omega) (by omega)).trans R.obj,?_,?_,fun a=>?_,(G g.hi (by omega) (by omega) (by omega)).trans R.hold,fun p hp=>?_,fun x hx xc=>?_,fun j k=>?_,⟨?_,?_,?_⟩,fun p hp=>?_,fun x hx xc=>?_,fun j hj=>?_,R.ir,fun x y hx hy xc yc=>?_⟩
 ·rw [show (g.put b.a i).mi=g.mi from rfl,gm,List.map_append]
  have h1:bs.map (ent (g.put b.a i).ι)=bs.map (ent g.ι):=List.map_congr_left fun x hx=>by
   unfold ent
   have:(g.put b.a i).ι x=g.ι x:=if_neg (by rintro rfl;exact hnb hx)
   rw [this]
  rw [h1]
  show _=AObj.map (_++[ent (g.put b.a i).ι b.a])
  rw [ent,ii]
 ·rw [List.nodup_append]
  refine ⟨R.bn,by simp,fun x hx y hy=>?_⟩
  simp at hy;subst hy;rintro rfl;exact hnb hx
 ·rw [List.mem_append,R.bm]
  constructor
  ·rintro (⟨x,hx,q⟩ | q)
   ·exact ⟨x,(mem x).2 (.inr hx),q⟩
   ·simp at q;exact ⟨b,(mem b).2 (.inl rfl),q.symm,hc⟩
  ·rintro ⟨x,hx,q1,q2⟩
   rcases (mem x).1 hx with rfl | e
   ·exact .inr (by simp [q1])
   ·exact .inl ⟨x,e,q1,q2⟩
 ·have:rowV (g.put b.a i) (m.ins b) p=rowV g m p:=by unfold rowV;exact List.map_congr_left fun d _=>hhv p d
  rw [this]
  have k4:=R.kr p hp
  exact (G (g.ρ p) (by omega) (by omega) (by omega)).trans (R.row p hp)
 ·rcases (mem x).1 hx with rfl | e
  ·rw [ii];exact gb
  ·have k5:=R.kb x e xc
   rw [io x e]
   exact (G _ (by omega) (by omega) (by omega)).trans (R.blk x e xc)
 ·by_cases e:j=i
  ·subst e;exact ⟨by have:=R.lt (j:=g.c) (by omega);omega,hi'⟩
  ·have:(g.put b.a i).K j=g.K j:=if_neg e
   rw [this] at k
   exact ⟨(R.k0 j k).1,Nat.lt_of_lt_of_le (R.lt k) N⟩
 ·rw [Ko _ (by show g.K g.c≠0;omega)];exact k1
 ·rw [Ko _ (by show g.K g.mi≠0;omega)];exact k2
 ·rw [Ko _ (by show g.K g.hi≠0;omega)];exact k3
 ·have k4:=R.kr p hp
  rw [Ko _ (by show g.K (g.ρ p)≠0;omega)];exact k4
 ·rcases (mem x).1 hx with rfl | e
  ·rw [ii];exact Ki
  ·have k5:=R.kb x e xc
   rw [io x e,Ko _ (by omega)];exact k5
 ·have k6:=R.kt j hj
  rw [Ko j (by omega)];exact k6
 ·rcases (mem x).1 hx with rfl | ex<;>rcases (mem y).1 hy with rfl | ey
  ·intro _;rfl
  ·rw [ii,io y ey]
   intro e
   have:=R.kb y ey yc
   rw [←e] at this;omega
  ·rw [ii,io x ex]
   intro e
   have:=R.kb x ex xc
   rw [e] at this;omega
  ·rw [io x ex,io y ey];exact R.ib x y ex ey xc yc
theorem CellP.remB (R:CellP h g ws lv bs m cn wn) {b:Blk} (hb:b∈m.bl) (hc:b.c≠-2) (hw:b.w=none) {ws':List Nat} {lv':List (List Sm)} {A':List Nat} (F:HFrame (h.set g.mi (.map ((bs.filter (· != b.a)).map (ent g.ι)))) h' (g.p.F++[g.t,g.so,g.oo]) A')
  (T':TabP h' g.t g.so g.oo g.p m.n ws' lv' (m.rem b.a).L):CellP h' g ws' lv' (bs.filter (· != b.a)) (m.rem b.a) cn wn:=by
 obtain ⟨k1,k2,k3⟩:=R.kc
 have I':=R.I.rem hb
 have lm:g.mi<h.n:=R.lt (by omega)
 have G:∀ j,g.K j≠0→g.K j≠6→g.K j≠2→h'.get j=h.get j:=fun j k k6 kk=>by
  rw [F.get j (by show j<h.n;exact R.lt k) fun hm=>k6 (R.kt j hm),AHeap.get_set_ne]
  rintro rfl;exact kk k2
 have gm:h'.get g.mi=.map ((bs.filter (· != b.a)).map (ent g.ι)):=by
  rw [F.get g.mi (by show g.mi<h.n;exact lm) fun hm=>by have:=R.kt _ hm;omega];exact AHeap.get_set_same _ _ _
 have mem:∀ x,x∈(m.rem b.a).bl↔x∈m.bl∧x.a≠b.a:=fun x=>by unfold Cm.rem;simp
 have hhv:∀ p c,hv g.ι (m.rem b.a) p c=hv g.ι m p c:=fun p c=>hv_same R.I I' g.ι fun a=>by
  constructor
  ·rintro ⟨x,hx,q⟩
   refine ⟨x,(mem x).2 ⟨hx,fun e=>?_⟩,q⟩
   obtain rfl:=R.I.same hx hb e
   rw [hw] at q;cases q.2.2
  ·rintro ⟨x,hx,q⟩;exact ⟨x,((mem x).1 hx).1,q⟩
 refine ⟨I',T',R.pr,(G _ (by omega) (by omega) (by omega)).trans R.obj,gm,R.bn.filter _,fun a=>?_,(G _ (by omega) (by omega) (by omega)).trans R.hold,fun p hp=>?_,fun x hx xc=>?_,fun j k=>⟨(R.k0 j k).1,Nat.lt_of_lt_of_le (R.lt k) F.n⟩,R.kc,R.kr,fun x hx xc=>R.kb x ((mem x).1 hx).1 xc,R.kt,R.ir,fun x y hx hy xc yc=>R.ib x y ((mem x).1 hx).1 ((mem y).1 hy).1 xc yc⟩
 ·rw [List.mem_filter,R.bm]
  constructor
  ·rintro ⟨⟨x,hx,q1,q2⟩,q3⟩
   exact ⟨x,(mem x).2 ⟨hx,by rw [q1];simpa using q3⟩,q1,q2⟩
  ·rintro ⟨x,hx,q1,q2⟩
   obtain ⟨h1,h2⟩:=(mem x).1 hx
   exact ⟨⟨x,h1,q1,q2⟩,by rw [q1] at h2;simpa using h2⟩
 ·have:rowV g (m.rem b.a) p=rowV g m p:=by unfold rowV;exact List.map_congr_left fun d _=>hhv p d
  rw [this]
  have hp':p<m.pr:=hp
  have k4:=R.kr p hp'
  exact (G _ (by omega) (by omega) (by omega)).trans (R.row p hp')
 ·have k5:=R.kb x ((mem x).1 hx).1 xc
  exact (G _ (by omega) (by omega) (by omega)).trans (R.blk x ((mem x).1 hx).1 xc)
end Go.Proofs.YthillgheddpmhaaDoor.Pg
namespace Go.Proofs.YthillgheddpmhaaDoor.Pg
open Go Go.AM Go.Proofs.YthillgheddpmhaaDoor.AmGJ
open Nat (reduceAdd reduceLeDiff reduceEqDiff)
open Int (reduceToNat reduceEq reduceLE)
variable {h h':AHeap} {g g':CG} {ws:List Nat} {lv:List (List Sm)} {bs:List Nat} {m:Cm} {cn wn:Int}
theorem CellP.gb (R:CellP h g ws lv bs m cn wn) {b:Blk} (hb:b∈m.bl) (hc:b.c≠-2):h.get (g.ι b.a)=.cells 0 false [.int .i64 (b.a:Int),.int .i64 (b.k:Int),.int .i64 (b.c+1),.int .i64 b.c,.int .u64 (b.u:Int),.bool b.w.isSome]∧g.ι b.a<h.n :=
 ⟨R.blk b hb hc,R.lt (by rw [R.kb b hb hc];decide)⟩
theorem CInv.u64 (I:CInv m) {b:Blk} (hb:b∈m.bl):b.u<18446744073709551616:=by
 rcases I.B b hb with ⟨_,e,_⟩ | ⟨_,e,_⟩ | ⟨c,h1,_,_,h2⟩
 ·omega
 ·omega
 ·have h3:=(tabs c h1).2.2.2.2.2.1
  exact Nat.lt_of_lt_of_le h2 (Nat.pow_le_pow_right (by decide) h3)
theorem ws_bd (I:CInv m) (hn:m.n≤4096) {b:Blk} (hb:b∈m.bl) (hc:b.c≠-2):1≤b.ws∧b.ws≤262144:=by
 have hk:=I.bd hb
 unfold Blk.ws
 rcases I.B b hb with ⟨e,_⟩ | ⟨e,_⟩ | ⟨c,h1,e,_⟩
 ·exact absurd e hc
 ·rw [if_pos (by omega)];omega
 ·have:=tabs c h1
  rw [if_neg (by omega),e,Int.toNat_natCast];omega
theorem wordsB (R:CellP h g ws lv bs m cn wn) {b:Blk} (hb:b∈m.bl) (hc:b.c≠-2):CallP AP 72 [.ptr (g.ι b.a) 0 0] h fun r h'=>HFrame h h' [] []∧r=.int .i64 (b.ws:Nat):=by
 refine callP (rfl:Tr.get AP 72=some A72) ?_
 generalize hQ:(fun (r:AVal) (h':AHeap)=>_)=Q
 obtain ⟨g1,l1⟩:=R.gb hb hc
 have hn:=R.T.K.n2
 have hk:=R.I.bd hb
 rcases R.I.B b hb with ⟨e,_⟩ | ⟨e,_⟩ | ⟨c,h1,e,_⟩
 ·exact absurd e hc
 ·have d1:decide (b.c<0)=true:=decide_eq_true (by omega)
  have w1:IntKind.i64.wrap ((b.k:Int)*64)=((b.k*64:Nat):Int):=(wrap64 (by omega) (by omega)).trans (by omega)
  simp -implicitDefEqProofs (disch:=first|exact dz _|fail) only [↓AM.R0,AM.R1,AM.R2,reduceAdd,reduceLeDiff,reduceEqDiff,reduceToNat,Nat.reduceLT,↓reduceIte,reduceEq,Int.reduceLT,reduceLE,g1,d1,w1]
  subst hQ
  exact ⟨HFrame.refl (by simp),by unfold Blk.ws;rw [if_pos (by omega)]⟩
 ·have d1:decide (b.c<0)=false:=decide_eq_false (by omega)
  rw [e] at g1 d1
  simp -implicitDefEqProofs (disch:=first|exact dz _|fail) only [↓AM.R0,AM.R1,AM.R2,reduceAdd,reduceLeDiff,reduceEqDiff,reduceToNat,Nat.reduceLT,↓reduceIte,reduceEq,Int.reduceLT,reduceLE,g1,d1]
  refine AM.callI_of (wordsC h1) ?_
  rintro r h2 ⟨f2,rfl⟩
  simp -implicitDefEqProofs (disch:=first|exact dz _|fail) only [↓AM.R0,AM.R1,AM.R2,reduceAdd,reduceLeDiff,reduceEqDiff,reduceToNat,Nat.reduceLT,↓reduceIte,reduceEq,Int.reduceLT,reduceLE]
  subst hQ
  exact ⟨f2,by unfold Blk.ws;rw [if_neg (by omega),e,Int.toNat_natCast]⟩
theorem fullB (R:CellP h g ws lv bs m cn wn) {b:Blk} (hb:b∈m.bl) {c:Nat} (h1:c<16) (e:b.c=(c:Int)):CallP AP 87 [.ptr (g.ι b.a) 0 0] h fun r h'=>HFrame h h' [] []∧r=.bool b.full:=by
 refine callP (rfl:Tr.get AP 87=some A87) ?_
 generalize hQ:(fun (r:AVal) (h':AHeap)=>_)=Q
 obtain ⟨g1,l1⟩:=R.gb hb (by omega)
 have hu:=R.I.u64 hb
 rw [e] at g1
 simp -implicitDefEqProofs (disch:=first|exact dz _|fail) only [↓AM.R0,AM.R1,AM.R2,reduceAdd,reduceLeDiff,reduceEqDiff,reduceToNat,Nat.reduceLT,↓reduceIte,reduceEq,Int.reduceLT,reduceLE,g1]
 refine AM.trCall_of (ones hu) ?_
 rintro r h2 ⟨rfl,rfl⟩
 simp -implicitDefEqProofs (disch:=first|exact dz _|fail) only [↓AM.R0,AM.R1,AM.R2,reduceAdd,reduceLeDiff,reduceEqDiff,reduceToNat,Nat.reduceLT,↓reduceIte,reduceEq,Int.reduceLT,reduceLE,g1]
 refine AM.trCall_of (cellsC h1) ?_
 rintro r h3 ⟨f3,rfl⟩
 have g3:=(f3.get _ l1 (by simp)).trans g1
 have l3:=Nat.lt_of_lt_of_le l1 f3.n
 have dd:decide (((pc 64 b.u:Nat):Int)=((cellT.getD c 0:Nat):Int))=b.full:=by
  unfold Blk.full;rw [e,Int.toNat_natCast];exact decide_eq_decide.2 (by omega)
 simp -implicitDefEqProofs (disch:=first|exact dz _|fail) only [↓AM.R0,AM.R1,AM.R2,reduceAdd,reduceLeDiff,reduceEqDiff,reduceToNat,Nat.reduceLT,↓reduceIte,reduceEq,Int.reduceLT,reduceLE,g1,g3,dd]
 subst hQ
 exact ⟨f3,rfl⟩
theorem countB (R:CellP h g ws lv bs m cn wn) {b:Blk} (hb:b∈m.bl) (hc:b.c≠-2) {k:Nat} (hk:k<64) (h1:0≤cn∧cn≤1000000000000000) (h2:0≤wn∧wn≤1000000000000000):CallP AP 68 [.ptr g.c 0 0,.ptr (g.ι b.a) 0 0,.int .i64 (k:Int)] h fun r h'=>CFr h h' g g∧CellP h' g ws lv bs m (cn+1) (wn+b.ws)∧r=.int .i64 ((b.a*64+k*b.ws:Nat):Int):=by
 refine callP (rfl:Tr.get AP 68=some A68) ?_
 generalize hQ:(fun (r:AVal) (h':AHeap)=>_)=Q
 have kc:=R.kc.1
 have g1:=R.obj
 have lc:g.c<h.n:=R.lt (by rw [kc];decide)
 obtain ⟨g2,l2⟩:=R.gb hb hc
 have ne:g.ι b.a≠g.c:=fun e=>by have:=R.kb b hb hc;rw [e,kc] at this;omega
 have hn:=R.T.K.n2
 have hw:=ws_bd R.I hn hb hc
 have hbk:=R.I.bd hb
 have w1:IntKind.i64.wrap (cn+1)=cn+1:=wrap64 (by omega) (by omega)
 simp -implicitDefEqProofs (disch:=first|exact dz _|fail) only [↓AM.R0,AM.R1,AM.R2,reduceAdd,reduceLeDiff,reduceEqDiff,reduceToNat,Nat.reduceLT,↓reduceIte,reduceEq,Int.reduceLT,reduceLE,g1,w1]
 have R2:=R.cnt (cn+1) wn
 have F2:=(CFr.refl h g).set (i:=g.c) (fun _=>by rw [kc];decide) (.cells 0 false [.ptr g.t 0 0,.map g.mi,.sl g.hi g.hg 0 m.pr 1,.int .i64 (cn+1),.int .i64 wn])
 generalize h.set g.c (.cells 0 false [.ptr g.t 0 0,.map g.mi,.sl g.hi g.hg 0 m.pr 1,.int .i64 (cn+1),.int .i64 wn])=h2 at *
 have g3:=R2.obj
 have lc2:g.c<h2.n:=R2.lt (by rw [kc];decide)
 refine AM.trCall_of (wordsB R2 hb hc) ?_
 rintro r h3 ⟨f3,rfl⟩
 have R3:=R2.keep f3
 have F3:=F2.tmp f3
 have g4:=R3.obj
 have lc3:g.c<h3.n:=R3.lt (by rw [kc];decide)
 have w2:IntKind.i64.wrap (wn+((b.ws:Nat):Int))=wn+((b.ws:Nat):Int):=wrap64 (by omega) (by omega)
 have rd:∀ j,j<h2.n→h3.get j=h2.get j:=fun j hj=>f3.get j hj (by simp)
 simp -implicitDefEqProofs (disch:=first|exact dz _|fail) only [↓AM.R0,AM.R1,AM.R2,reduceAdd,reduceLeDiff,reduceEqDiff,reduceToNat,Nat.reduceLT,↓reduceIte,reduceEq,Int.reduceLT,reduceLE,g3,g4,w2]
 have R4:=R3.cnt (cn+1) (wn+((b.ws:Nat):Int))
 have F4:=F3.set (i:=g.c) (fun _=>by rw [kc];decide) (.cells 0 false [.ptr g.t 0 0,.map g.mi,.sl g.hi g.hg 0 m.pr 1,.int .i64 (cn+1),.int .i64 (wn+((b.ws:Nat):Int))])
 generalize h3.set g.c (.cells 0 false [.ptr g.t 0 0,.map g.mi,.sl g.hi g.hg 0 m.pr 1,.int .i64 (cn+1),.int .i64 (wn+((b.ws:Nat):Int))])=h4 at *
 obtain ⟨g5,l5⟩:=R4.gb hb hc
 have w3:IntKind.i64.wrap ((b.a:Int)*64)=((b.a*64:Nat):Int):=(wrap64 (by omega) (by omega)).trans (by omega)
 simp -implicitDefEqProofs (disch:=first|exact dz _|fail) only [↓AM.R0,AM.R1,AM.R2,reduceAdd,reduceLeDiff,reduceEqDiff,reduceToNat,Nat.reduceLT,↓reduceIte,reduceEq,Int.reduceLT,reduceLE,g5,w3]
 refine AM.trCall_of (wordsB R4 hb hc) ?_
 rintro r h5 ⟨f5,rfl⟩
 have R5:=R4.keep f5
 obtain ⟨g6,l6⟩:=R5.gb hb hc
 have hkw:k*b.ws≤64*262144:=Nat.mul_le_mul (by omega) hw.2
 have w4:IntKind.i64.wrap ((k:Int)*((b.ws:Nat):Int))=((k*b.ws:Nat):Int):=by
  rw [←Int.natCast_mul];exact wrap64 (by omega) (by omega)
 have w5:IntKind.i64.wrap (((b.a*64:Nat):Int)+((k*b.ws:Nat):Int))=((b.a*64+k*b.ws:Nat):Int):=(wrap64 (by omega) (by omega)).trans (by omega)
 simp -implicitDefEqProofs (disch:=first|exact dz _|fail) only [↓AM.R0,AM.R1,AM.R2,reduceAdd,reduceLeDiff,reduceEqDiff,reduceToNat,Nat.reduceLT,↓reduceIte,reduceEq,Int.reduceLT,reduceLE,g5,g6,w4,w5]
 subst hQ
 exact ⟨F4.tmp f5,R5,rfl⟩
def Cm.find (m:Cm) (x:Int):Option (Blk×Nat) :=
 if x<0 then none else match m.bl.find? (fun b=>decide (b.a≤x.toNat / 64)&&decide (x.toNat / 64<b.a+b.k)) with
  | some b=>if b.c=-2 then none else some (b,(x.toNat-b.a*64) / b.ws)
  | none=>none
def Cm.cell (m:Cm) (x:Int):Option (Blk×Nat):=match m.find x with
 | some (b,k)=>if b.u.testBit k then some (b,k) else none
 | none=>none
theorem findF_find (m:Cm) (q:Nat):findF m.L (q:Int)=(m.bl.find? (fun b=>decide (b.a≤q)&&decide (q<b.a+b.k))).map Blk.sp:=by
 unfold findF Cm.L
 rw [List.find?_map]
 congr 1
 congr 1
 funext b
 simp only [Function.comp,Blk.sp]
 congr 1
 ·exact decide_eq_decide.2 (by omega)
 ·exact decide_eq_decide.2 (by omega)
def encFd (ι:Nat→Nat) (o:Option (Blk×Nat)):AVal:=match o with
 | none=>.tup [.nilp,.int .i64 0,.bool false]
 | some (b,k)=>.tup [.ptr (ι b.a) 0 0,.int .i64 (k:Int),.bool (b.u.testBit k)]
theorem bm_in (R:CellP h g ws lv bs m cn wn) {b:Blk} (hb:b∈m.bl) (hc:b.c≠-2):b.a∈bs:=(R.bm _).2 ⟨b,hb,rfl,hc⟩
theorem bm_out (R:CellP h g ws lv bs m cn wn) {b:Blk} (hb:b∈m.bl) (hc:b.c=-2):b.a ∉ bs:=fun hm=>by
 obtain ⟨x,hx,e,h2⟩:=(R.bm _).1 hm
 rw [R.I.same hx hb e] at h2
 exact h2 hc
theorem bit_and (u k:Nat):decide ((((u >>> k) &&& 1:Nat):Int)=1)=u.testBit k:=by
 rw [Nat.and_comm,show (1:Nat) &&& (u >>> k)=(u >>> k)%2 by rw [Nat.and_comm];exact Nat.and_two_pow_sub_one_eq_mod _ 1]
 rw [Nat.testBit,show (1:Nat) &&& (u >>> k)=(u >>> k)%2 by rw [Nat.and_comm];exact Nat.and_two_pow_sub_one_eq_mod _ 1]
 rcases Nat.mod_two_eq_zero_or_one (u >>> k) with e | e<;>rw [e]<;>rfl
set_option maxHeartbeats 4000000 in
theorem findB (R:CellP h g ws lv bs m cn wn) (x:Int) (hx:-9223372036854775808≤x∧x≤9223372036854775807):CallP AP 71 [.ptr g.c 0 0,.int .i64 x] h fun r h'=>HFrame h h' [] []∧r=encFd g.ι (m.find x):=by
 refine callP (rfl:Tr.get AP 71=some A71) ?_
 generalize hQ:(fun (r:AVal) (h':AHeap)=>_)=Q
 have g1:=R.obj
 have lc:g.c<h.n:=R.lt (by rw [R.kc.1];decide)
 rcases Int.lt_or_le x 0 with c | c
 ·have d1:decide (x<0)=true:=decide_eq_true c
  simp -implicitDefEqProofs (disch:=first|exact dz _|fail) only [↓AM.R0,AM.R1,AM.R2,reduceAdd,reduceLeDiff,reduceEqDiff,reduceToNat,Nat.reduceLT,↓reduceIte,reduceEq,Int.reduceLT,reduceLE,d1]
  subst hQ
  exact ⟨HFrame.refl (by simp),by unfold Cm.find;rw [if_pos c];rfl⟩
 have d1:decide (x<0)=false:=decide_eq_false (by omega)
 obtain ⟨x,rfl⟩:∃ a:Nat,x=a:=⟨x.toNat,by omega⟩
 have q1:((x:Nat):Int).tdiv 64=((x / 64:Nat):Int):=rfl
 have q2:IntKind.i64.wrap ((x / 64:Nat):Int)=((x / 64:Nat):Int):=wrap64 (by omega) (by omega)
 have hm:m.find (x:Int)=match m.bl.find? (fun b=>decide (b.a≤x / 64)&&decide (x / 64<b.a+b.k)) with
  | some b=>if b.c=-2 then none else some (b,(x-b.a*64) / b.ws)
  | none=>none:=by
  unfold Cm.find;rw [if_neg (by omega),Int.toNat_natCast]
 rw [hm] at hQ
 clear hm
 simp -implicitDefEqProofs (disch:=first|exact dz _|fail) only [↓AM.R0,AM.R1,AM.R2,reduceAdd,reduceLeDiff,reduceEqDiff,reduceToNat,Nat.reduceLT,↓reduceIte,reduceEq,Int.reduceLT,reduceLE,d1,g1,q1,q2]
 refine AM.callI_of (findW R.T ((x / 64:Nat):Int)) ?_
 rintro r h2 ⟨f2,rfl⟩
 rw [findF_find]
 have R2:=R.keep f2
 have g2:=R2.obj
 have gm:=R2.map
 have lc2:g.c<h2.n:=R2.lt (by rw [R.kc.1];decide)
 have lm2:g.mi<h2.n:=R2.lt (by rw [R.kc.2.1];decide)
 cases hf:m.bl.find? (fun b=>decide (b.a≤x / 64)&&decide (x / 64<b.a+b.k)) with
 | none =>
  rw [hf] at hQ
  have ez:encT zSp=[.int .i64 0,.int .i64 0,.int .i64 0]:=rfl
  simp -implicitDefEqProofs (disch:=first|exact dz _|fail) only [↓AM.R0,AM.R1,AM.R2,reduceAdd,reduceLeDiff,reduceEqDiff,reduceToNat,Nat.reduceLT,↓reduceIte,reduceEq,Int.reduceLT,reduceLE,Option.map_none,encF,ez]
  subst hQ
  exact ⟨(f2.pushTmp _).setTmp f2.n _,rfl⟩
 | some b =>
  rw [hf] at hQ
  have hb:=List.mem_of_find?_eq_some hf
  have hbq:=List.find?_some hf
  simp only [Bool.and_eq_true,decide_eq_true_eq] at hbq
  have hbd:=R.I.bd hb
  have f3:=(f2.pushTmp (.cells 0 false [.int .i64 0,.int .i64 0,.int .i64 0])).setTmp (i:=h2.n) f2.n (.cells 0 false (encT b.sp))
  have g3:((h2.push (.cells 0 false [.int .i64 0,.int .i64 0,.int .i64 0])).set h2.n (.cells 0 false (encT b.sp))).get h2.n=.cells 0 false (encT b.sp):=AHeap.get_set_same _ _ _
  have n3:((h2.push (.cells 0 false [.int .i64 0,.int .i64 0,.int .i64 0])).set h2.n (.cells 0 false (encT b.sp))).n=h2.n+1:=by simp
  simp only [encT] at f3 g3 n3
  simp -implicitDefEqProofs (disch:=first|exact dz _|fail) only [↓AM.R0,AM.R1,AM.R2,reduceAdd,reduceLeDiff,reduceEqDiff,reduceToNat,Nat.reduceLT,↓reduceIte,reduceEq,Int.reduceLT,reduceLE,Option.map_some,encF,encT,g2]
  generalize ((h2.push (.cells 0 false [.int .i64 0,.int .i64 0,.int .i64 0])).set h2.n (.cells 0 false [.int .i64 (b.sp.a:Int),.int .i64 (b.sp.k:Int),.int .i64 b.sp.t]))=h3 at *
  have R3:=R.keep f3
  have g4:=R3.obj
  have gm3:=R3.map
  have l3:h2.n<h3.n:=by omega
  have lc3:g.c<h3.n:=R3.lt (by rw [R.kc.1];decide)
  have lm3:g.mi<h3.n:=R3.lt (by rw [R.kc.2.1];decide)
  have ea:b.sp.a=b.a:=rfl
  rw [ea] at g3
  by_cases hc:b.c=-2
  ·have lk:=lk_out gm3 R.bn (bm_out R hb hc) .nilp
   simp -implicitDefEqProofs (disch:=first|exact dz _|fail) only [↓AM.R0,AM.R1,AM.R2,reduceAdd,reduceLeDiff,reduceEqDiff,reduceToNat,Nat.reduceLT,↓reduceIte,reduceEq,Int.reduceLT,reduceLE,ea,g3,a_lookup,lk]
   subst hQ
   exact ⟨f3,by simp only [if_pos hc];rfl⟩
  ·have lk:=lk_in gm3 R.bn (bm_in R hb hc) .nilp
   have w1:IntKind.i64.wrap ((b.a:Int)*64)=((b.a*64:Nat):Int):=(wrap64 (by have:=R.T.K.n2;omega) (by have:=R.T.K.n2;omega)).trans (by omega)
   have w2:IntKind.i64.wrap ((x:Int)-((b.a*64:Nat):Int))=((x-b.a*64:Nat):Int):=(wrap64 (by omega) (by omega)).trans (by omega)
   have hws:=ws_bd R.I R.T.K.n2 hb hc
   simp -implicitDefEqProofs (disch:=first|exact dz _|fail) only [↓AM.R0,AM.R1,AM.R2,reduceAdd,reduceLeDiff,reduceEqDiff,reduceToNat,Nat.reduceLT,↓reduceIte,reduceEq,Int.reduceLT,reduceLE,ea,g3,a_lookup,lk,w1,w2]
   refine AM.trCall_of (wordsB R3 hb hc) ?_
   rintro r h4 ⟨f4,rfl⟩
   have R4:=R3.keep f4
   obtain ⟨gb,lb⟩:=R4.gb hb hc
   have g34:=(f4.get _ l3 (by simp)).trans g3
   have l4:h2.n<h4.n:=Nat.lt_of_lt_of_le l3 f4.n
   have hu:=R.I.u64 hb
   have q3:((x-b.a*64:Nat):Int).tdiv ((b.ws:Nat):Int)=(((x-b.a*64) / b.ws:Nat):Int):=rfl
   have hq:(x-b.a*64) / b.ws≤x-b.a*64:=Nat.div_le_self _ _
   have hQ2:∀ k,(x-b.a*64) / b.ws=k→Q (.tup [.ptr (g.ι b.a) 0 0,.int .i64 (k:Int),.bool (b.u.testBit k)]) h4:=fun k hk=>by
    subst hQ
    refine ⟨f3.trans f4,?_⟩
    simp only [if_neg hc,hk];rfl
   have w0:((b.ws:Nat):Int)≠0:=by omega
   generalize (x-b.a*64) / b.ws=k at *
   have q4:IntKind.i64.wrap ((k:Nat):Int)=((k:Nat):Int):=wrap64 (by omega) (by omega)
   rcases Nat.lt_or_ge k 64 with hk | hk
   ·have d2:decide ((k:Int)<64)=true:=decide_eq_true (by omega)
    have e1:=shr_nat (h:=h4) (a:=b.u) (b:=k) (l:=.i64) (by omega)
    have hs:b.u >>> k<18446744073709551616:=by rw [Nat.shiftRight_eq_div_pow];exact Nat.lt_of_le_of_lt (Nat.div_le_self _ _) hu
    have e2:=and_nat (h:=h4) (a:=b.u >>> k) (b:=1) hs (by decide)
    have e3:=bit_and b.u k
    have c1:((1:Nat):Int)=1:=rfl
    rw [c1] at e2
    simp -implicitDefEqProofs (disch:=first|exact dz _|fail) only [↓AM.R0,AM.R1,AM.R2,reduceAdd,reduceLeDiff,reduceEqDiff,reduceToNat,Nat.reduceLT,↓reduceIte,reduceEq,Int.reduceLT,reduceLE,q3,q4,g34,d2,gb,e1,e2,e3]
    exact hQ2 k rfl
   ·have d2:decide ((k:Int)<64)=false:=decide_eq_false (by omega)
    have:b.u.testBit k=false:=Nat.testBit_lt_two_pow (Nat.lt_of_lt_of_le hu (Nat.pow_le_pow_right (n:=2) (by decide) hk))
    have hq:=hQ2 k rfl
    rw [this] at hq
    simp -implicitDefEqProofs (disch:=first|exact dz _|fail) only [↓AM.R0,AM.R1,AM.R2,reduceAdd,reduceLeDiff,reduceEqDiff,reduceToNat,Nat.reduceLT,↓reduceIte,reduceEq,Int.reduceLT,reduceLE,q3,q4,g34,d2,gb]
    exact hq
def encC (o:Option (Blk×Nat)):AVal:=match o with
 | none=>.tup [.int .i64 0,.int .i64 0,.bool false]
 | some (b,k)=>.tup [.int .i64 ((b.a*64+k*b.ws:Nat):Int),.int .i64 (b.ws:Nat),.bool true]
theorem find_some {x:Int} {b:Blk} {k:Nat} (h:m.find x=some (b,k)):b∈m.bl∧b.c≠-2∧∃ n:Nat,x=n∧b.a≤n / 64∧n / 64<b.a+b.k∧k=(n-b.a*64) / b.ws:=by
 unfold Cm.find at h
 split at h
 ·cases h
 ·split at h
  ·rename_i b' hf
   have hb:=List.mem_of_find?_eq_some hf
   have hbq:=List.find?_some hf
   simp only [Bool.and_eq_true,decide_eq_true_eq] at hbq
   split at h
   ·cases h
   ·rename_i hc
    simp only [Option.some.injEq,Prod.mk.injEq] at h
    obtain ⟨rfl,rfl⟩:=h
    exact ⟨hb,hc,x.toNat,by omega,hbq.1,hbq.2,rfl⟩
  ·cases h
set_option maxHeartbeats 4000000 in
theorem findC (R:CellP h g ws lv bs m cn wn) (x:Int) (hx:-9223372036854775808≤x∧x≤9223372036854775807):CallP AP 45 [.ptr g.c 0 0,.int .i64 x] h fun r h'=>HFrame h h' [] []∧r=encC (m.cell x):=by
 refine callP (rfl:Tr.get AP 45=some A45) ?_
 generalize hQ:(fun (r:AVal) (h':AHeap)=>_)=Q
 simp -implicitDefEqProofs (disch:=first|exact dz _|fail) only [↓AM.R0,AM.R1,AM.R2,reduceAdd,reduceLeDiff,reduceEqDiff,reduceToNat,Nat.reduceLT,↓reduceIte,reduceEq,Int.reduceLT,reduceLE]
 refine AM.callI_of (findB R x hx) ?_
 rintro r h2 ⟨f2,rfl⟩
 have R2:=R.keep f2
 cases hf:m.find x with
 | none =>
  simp -implicitDefEqProofs (disch:=first|exact dz _|fail) only [↓AM.R0,AM.R1,AM.R2,reduceAdd,reduceLeDiff,reduceEqDiff,reduceToNat,Nat.reduceLT,↓reduceIte,reduceEq,Int.reduceLT,reduceLE,encFd]
  subst hQ
  exact ⟨f2,by unfold Cm.cell;rw [hf];rfl⟩
 | some p =>
  obtain ⟨b,k⟩:=p
  obtain ⟨hb,hc,n,rfl,n1,n2,n3⟩:=find_some hf
  obtain ⟨gb,lb⟩:=R2.gb hb hc
  have hbd:=R.I.bd hb
  have hn:=R.T.K.n2
  have hws:=ws_bd R.I hn hb hc
  cases hu:b.u.testBit k with
  | false =>
   simp -implicitDefEqProofs (disch:=first|exact dz _|fail) only [↓AM.R0,AM.R1,AM.R2,reduceAdd,reduceLeDiff,reduceEqDiff,reduceToNat,Nat.reduceLT,↓reduceIte,reduceEq,Int.reduceLT,reduceLE,encFd,hu]
   subst hQ
   exact ⟨f2,by unfold Cm.cell;rw [hf];simp only [hu];rfl⟩
  | true =>
   have hkw:k*b.ws≤n-b.a*64:=by rw [n3];exact Nat.div_mul_le_self _ _
   have w1:IntKind.i64.wrap ((b.a:Int)*64)=((b.a*64:Nat):Int):=(wrap64 (by omega) (by omega)).trans (by omega)
   have w2:IntKind.i64.wrap ((k:Int)*((b.ws:Nat):Int))=((k*b.ws:Nat):Int):=by rw [←Int.natCast_mul];exact wrap64 (by omega) (by omega)
   have w3:IntKind.i64.wrap (((b.a*64:Nat):Int)+((k*b.ws:Nat):Int))=((b.a*64+k*b.ws:Nat):Int):=(wrap64 (by omega) (by omega)).trans (by omega)
   simp -implicitDefEqProofs (disch:=first|exact dz _|fail) only [↓AM.R0,AM.R1,AM.R2,reduceAdd,reduceLeDiff,reduceEqDiff,reduceToNat,Nat.reduceLT,↓reduceIte,reduceEq,Int.reduceLT,reduceLE,encFd,hu,gb,w1]
   refine AM.trCall_of (wordsB R2 hb hc) ?_
   rintro r h3 ⟨f3,rfl⟩
   have R3:=R2.keep f3
   obtain ⟨gb3,lb3⟩:=R3.gb hb hc
   simp -implicitDefEqProofs (disch:=first|exact dz _|fail) only [↓AM.R0,AM.R1,AM.R2,reduceAdd,reduceLeDiff,reduceEqDiff,reduceToNat,Nat.reduceLT,↓reduceIte,reduceEq,Int.reduceLT,reduceLE,gb3,gb,w1,w2,w3]
   refine AM.trCall_of (wordsB R3 hb hc) ?_
   rintro r h4 ⟨f4,rfl⟩
   have R4:=R3.keep f4
   obtain ⟨gb4,lb4⟩:=R4.gb hb hc
   simp -implicitDefEqProofs (disch:=first|exact dz _|fail) only [↓AM.R0,AM.R1,AM.R2,reduceAdd,reduceLeDiff,reduceEqDiff,reduceToNat,Nat.reduceLT,↓reduceIte,reduceEq,Int.reduceLT,reduceLE,gb4,gb3,gb,w1,w2,w3]
   subst hQ
   exact ⟨(f2.trans f3).trans f4,by unfold Cm.cell;rw [hf];simp only [hu];rfl⟩
end Go.Proofs.YthillgheddpmhaaDoor.Pg
namespace Go.Proofs.YthillgheddpmhaaDoor.Pg
open Go Go.AM Go.Proofs.YthillgheddpmhaaDoor.AmGJ
open Nat (reduceAdd reduceLeDiff reduceEqDiff)
open Int (reduceToNat reduceEq reduceLE)
set_option maxHeartbeats 4000000 in
theorem genS2 {h:AHeap} {t so oo:Nat} {p:PI} {n:Nat} {ws:List Nat} {L:List Sp} {id c:Nat} (hn4:n≤4096) (I:List Sp→AHeap→Prop) (J:AHeap→Prop) (hst:∀ l h h',I l h→HFrame h h' [] []→I l h')
  (hK:∀ l h,I l h→(∃ lv,TabP h t so oo p n ws lv L)∧h.get c=.cells 0 false [.ptr t 0 0]∧c<h.n)
  (hy:∀ (l:List Sp) (h h2:AHeap) (s:Sp) (rest:List Sp),I l h→HFrame h h2 [] []→L=l++s::rest→YldP AP id [.agg (encT s)] h2 fun r h'=>(r=.bool true∧I (l++[s]) h'∧h2.n≤h'.n∧∀ j,h.n≤j→j<h2.n→h'.get j=h2.get j)∨(r=.bool false∧J h')) (h0:I [] h) :
  CallP AP 85 [.yld id,.ptr c 0 0] h fun r h'=>I L h'∨J h':=by
 refine callP (rfl:Tr.get AP 85=some A85) ?_
 generalize hQ:(fun (r:AVal) (h':AHeap)=>_)=Q
 obtain ⟨⟨lv,R⟩,gc,nc⟩:=hK _ _ h0
 have SI:=R.I
 simp -implicitDefEqProofs (disch:=first|exact dz _|fail) only [↓AM.R0,AM.R1,AM.R2,reduceAdd,reduceLeDiff,reduceEqDiff,reduceToNat,Nat.reduceLT,↓reduceIte,reduceEq,Int.reduceLT,reduceLE,gc]
 refine AM.loopI_of (fun k e h'=>∃ (x:Nat) (l rest:List Sp),k+x=n∧e.val 0=.yld id∧e.val 1=.ptr c 0 0∧e.val 3=.int .i64 (x:Int)∧I l h'∧L=l++rest∧(∀ s,s∈rest→x≤s.a)∧∀ s,s∈l→s.a+s.k≤x) n ?_ ?_
 ·refine ⟨0,[],L,by omega,?_,?_,?_,h0,rfl,fun s _=>by omega,fun s hs=>by simp at hs⟩<;>simp -implicitDefEqProofs (disch:=first|exact dz _|fail) only [↓AM.R0,AM.R1,AM.R2,reduceAdd,reduceLeDiff,reduceEqDiff,reduceToNat,Nat.reduceLT,↓reduceIte,reduceEq,Int.reduceLT,reduceLE]<;>rfl
 ·clear R gc nc lv h0
  rintro k e h' ⟨x,l,rest,hk,e0,e1,e3,hI,hL,hr,hl⟩
  obtain ⟨⟨lv,R⟩,gc,nc⟩:=hK _ _ hI
  have g1:=R.obj
  have g2:=R.sp
  obtain ⟨l1,l2,l3⟩:=R.lt
  simp -implicitDefEqProofs (disch:=first|exact dz _|fail) only [↓AM.R0,AM.R1,AM.R2,reduceAdd,reduceLeDiff,reduceEqDiff,reduceToNat,Nat.reduceLT,↓reduceIte,reduceEq,Int.reduceLT,reduceLE,e1,e3,gc,g1]
  refine AM.cI_bool (fun hb=>?_) (fun hb=>?_)
  ·simp only [decide_eq_true_eq] at hb
   have hx:x<n:=by omega
   have x3:=ix3 g2 (len:=n) (i:=x) hx
   have xs:=sp_at (L:=L) hx
   have xl:x*3+3≤(spV L n).length:=by rw [sp_len];omega
   have fP:∀ o:AObj,HFrame h' ((h'.push (.cells 0 false [.int .i64 0,.int .i64 0,.int .i64 0])).set h'.n o) [] []:=fun o=>((HFrame.refl (h:=h') (F:=[]) (by simp)).pushTmp _).setTmp (Nat.le_refl _) _
   by_cases hs:∃ s,s∈L∧s.a=x
   ·obtain ⟨m1,m2⟩:=atL_some hs
    generalize hse:atL L x=s at *
    have hc1:=SI.c1 s m1
    have hrest:∃ rest',rest=s::rest':=by
     have hmem:s∈rest:=by
      rw [hL,List.mem_append] at m1
      rcases m1 with q | q
      ·exfalso
       have:=hl s q;omega
      ·exact q
     cases rest with
     | nil=>simp at hmem
     | cons t rest' =>
      rcases List.mem_cons.1 hmem with q | q
      ·exact ⟨rest',by rw [q]⟩
      ·have h1:=hr t List.mem_cons_self
       have h2:=SI.srt
       rw [hL,List.pairwise_append,List.pairwise_cons] at h2
       have h3:=h2.2.1.1 s q
       have h4:=SI.c1 t (by rw [hL];simp)
       omega
    obtain ⟨rest',rfl⟩:=hrest
    have dk:decide ((s.k:Int)=0)=false:=decide_eq_false (by omega)
    simp only [encT] at xs
    simp -implicitDefEqProofs (disch:=first|exact dz _|fail) only [↓AM.R0,AM.R1,AM.R2,reduceAdd,reduceLeDiff,reduceEqDiff,reduceToNat,Nat.reduceLT,↓reduceIte,reduceEq,Int.reduceLT,reduceLE,e0,e1,e3,gc,g1,g2,x3,xs,xl,dk]
    refine AM.yldI_of (hy l _ _ s rest' hI (fP (.cells 0 false [.int .i64 (s.a:Int),.int .i64 (s.k:Int),.int .i64 s.t])) hL) ?_
    rintro r h5 (⟨rfl,hI5,hn5,hg5⟩ | ⟨rfl,hJ⟩)
    rotate_left
    ·simp -implicitDefEqProofs (disch:=first|exact dz _|fail) only [↓AM.R0,AM.R1,AM.R2,reduceAdd,reduceLeDiff,reduceEqDiff,reduceToNat,Nat.reduceLT,↓reduceIte,reduceEq,Int.reduceLT,reduceLE]
     subst hQ
     exact .inr hJ
    have gq:=hg5 h'.n (Nat.le_refl _) (by simp)
    rw [AHeap.get_set_same] at gq
    have lq:h'.n<h5.n:=by simp at hn5;omega
    have w1:IntKind.i64.wrap ((x:Int)+(s.k:Int))=((x+s.k:Nat):Int):=(wrap64 (by omega) (by omega)).trans (by omega)
    simp -implicitDefEqProofs (disch:=first|exact dz _|fail) only [↓AM.R0,AM.R1,AM.R2,reduceAdd,reduceLeDiff,reduceEqDiff,reduceToNat,Nat.reduceLT,↓reduceIte,reduceEq,Int.reduceLT,reduceLE,e3,gq,w1]
    refine ⟨k-s.k,by omega,x+s.k,l++[s],rest',by omega,e0,e1,rfl,hI5,by rw [hL,List.append_assoc];rfl,fun t' ht=>?_,fun t' ht=>?_⟩
    ·have h2:=SI.srt
     rw [hL,List.pairwise_append,List.pairwise_cons] at h2
     have:=h2.2.1.1 t' ht
     omega
    ·rcases List.mem_append.1 ht with q | q
     ·have:=hl t' q;omega
     ·simp at q;rw [q];omega
   ·have hz:=atL_none (L:=L) (q:=x) (fun s h1 h2=>hs ⟨s,h1,h2⟩)
    rw [hz] at xs
    simp only [encT,zSp] at xs
    have w1:IntKind.i64.wrap ((x:Int)+1)=((x+1:Nat):Int):=(wrap64 (by omega) (by omega)).trans (by omega)
    have d0:decide (((0:Nat):Int)=0)=true:=rfl
    simp -implicitDefEqProofs (disch:=first|exact dz _|fail) only [↓AM.R0,AM.R1,AM.R2,reduceAdd,reduceLeDiff,reduceEqDiff,reduceToNat,Nat.reduceLT,↓reduceIte,reduceEq,Int.reduceLT,reduceLE,e0,e1,e3,gc,g1,g2,x3,xs,xl,w1,d0]
    refine ⟨k-1,by omega,x+1,l,rest,by omega,rfl,hst _ _ _ hI (fP _),hL,fun s h1=>?_,fun s h1=>?_⟩
    ·have h2:=hr s h1
     have h3:s.a≠x:=fun e=>hs ⟨s,by rw [hL];exact List.mem_append_right _ h1,e⟩
     omega
    ·have:=hl s h1;omega
  ·simp only [decide_eq_false_iff_not] at hb
   simp -implicitDefEqProofs (disch:=first|exact dz _|fail) only [↓AM.R0,AM.R1,AM.R2,reduceAdd,reduceLeDiff,reduceEqDiff,reduceToNat,Nat.reduceLT,↓reduceIte,reduceEq,Int.reduceLT,reduceLE]
   subst hQ
   have hnil:rest=[]:=by
    cases rest with
    | nil=>rfl
    | cons s rest =>
     have h1:=hr s List.mem_cons_self
     have h2:=SI.c1 s (by rw [hL];simp)
     omega
   rw [hnil,List.append_nil] at hL
   exact .inl (hL ▸ hI)
variable {h h':AHeap} {g g':CG} {ws:List Nat} {lv:List (List Sm)} {bs:List Nat} {m:Cm} {cn wn:Int}
def Blk.can (c:Nat) (b:Blk):Bool:=decide (b.c=(c:Int))&&(b.w.isNone&&!b.full)
def Cm.spare (m:Cm) (c:Nat):Option Blk:=m.bl.find? (Blk.can c)
set_option maxHeartbeats 8000000 in
theorem spareC (R:CellP h g ws lv bs m cn wn) {c:Nat} (hc:c<16):CallP AP 88 [.ptr g.c 0 0,.int .i64 (c:Int)] h fun r h'=>HFrame h h' [] []∧r=match m.spare c with | none=>.nilp | some b=>.ptr (g.ι b.a) 0 0:=by
 refine callP (rfl:Tr.get AP 88=some A88) ?_
 generalize hQ:(fun (r:AVal) (h':AHeap)=>_)=Q
 have g1:=R.obj
 have lc:g.c<h.n:=R.lt (by rw [R.kc.1];decide)
 have lm:g.mi<h.n:=R.lt (by rw [R.kc.2.1];decide)
 simp -implicitDefEqProofs (disch:=first|exact dz _|fail) only [↓AM.R0,AM.R1,AM.R2,reduceAdd,reduceLeDiff,reduceEqDiff,reduceToNat,Nat.reduceLT,↓reduceIte,reduceEq,Int.reduceLT,reduceLE,g1]
 refine AM.callI_of allS ?_
 rintro r h1 ⟨hh,rfl⟩
 have f1:HFrame h h1 [] []:=by rw [hh];exact ((((HFrame.refl (h:=h) (F:=[]) (by simp)).pushTmp _).pushTmp _).pushTmp _).pushTmp _
 have n1:h1.n=h.n+4:=by rw [hh];simp
 have g0:h1.get h.n=.cells 0 false [.ptr g.c 0 0]:=by rw [hh];simp -implicitDefEqProofs (disch:=first|exact dz _|fail) only [↓AM.R0,AM.R1,AM.R2,reduceAdd,reduceLeDiff,reduceEqDiff,reduceToNat,Nat.reduceLT,↓reduceIte,reduceEq,Int.reduceLT,reduceLE]
 have g2:h1.get (h.n+1)=.cells 0 false [.int .i64 (c:Int)]:=by rw [hh];simp -implicitDefEqProofs (disch:=first|exact dz _|fail) only [↓AM.R0,AM.R1,AM.R2,reduceAdd,reduceLeDiff,reduceEqDiff,reduceToNat,Nat.reduceLT,↓reduceIte,reduceEq,Int.reduceLT,reduceLE]
 have g3:h1.get (h.n+2)=.cells 0 false [.nilp]:=by rw [hh];simp -implicitDefEqProofs (disch:=first|exact dz _|fail) only [↓AM.R0,AM.R1,AM.R2,reduceAdd,reduceLeDiff,reduceEqDiff,reduceToNat,Nat.reduceLT,↓reduceIte,reduceEq,Int.reduceLT,reduceLE]
 have g4:h1.get (h.n+3)=.cells 0 false [.ptr g.t 0 0]:=by rw [hh];simp -implicitDefEqProofs (disch:=first|exact dz _|fail) only [↓AM.R0,AM.R1,AM.R2,reduceAdd,reduceLeDiff,reduceEqDiff,reduceToNat,Nat.reduceLT,↓reduceIte,reduceEq,Int.reduceLT,reduceLE]
 simp -implicitDefEqProofs (disch:=first|exact dz _|fail) only [↓AM.R0,AM.R1,AM.R2,reduceAdd,reduceLeDiff,reduceEqDiff,reduceToNat,Nat.reduceLT,↓reduceIte,reduceEq,Int.reduceLT,reduceLE]
 generalize hE:Tr.set _ 11 _=e
 have e2:Env.val e 2=AVal.ptr h.n 0 0:=by rw [←hE];simp -implicitDefEqProofs (disch:=first|exact dz _|fail) only [↓AM.R0,AM.R1,AM.R2,reduceAdd,reduceLeDiff,reduceEqDiff,reduceToNat,Nat.reduceLT,↓reduceIte,reduceEq,Int.reduceLT,reduceLE]
 have e3:Env.val e 3=AVal.ptr (h.n+1) 0 0:=by rw [←hE];simp -implicitDefEqProofs (disch:=first|exact dz _|fail) only [↓AM.R0,AM.R1,AM.R2,reduceAdd,reduceLeDiff,reduceEqDiff,reduceToNat,Nat.reduceLT,↓reduceIte,reduceEq,Int.reduceLT,reduceLE]
 have e4:Env.val e 4=AVal.ptr (h.n+2) 0 0:=by rw [←hE];simp -implicitDefEqProofs (disch:=first|exact dz _|fail) only [↓AM.R0,AM.R1,AM.R2,reduceAdd,reduceLeDiff,reduceEqDiff,reduceToNat,Nat.reduceLT,↓reduceIte,reduceEq,Int.reduceLT,reduceLE]
 clear hE
 rw [n1,show h.n+1+1+1=h.n+3 by omega]
 generalize hLo:AObj.loop 0 none e [12] _ _=lo
 clear hh
 have hn4:=R.T.K.n2
 refine AM.rangeC_of (genS2 (t:=g.t) (so:=g.so) (oo:=g.oo) (p:=g.p) (n:=m.n) (ws:=ws) (L:=m.L) hn4 (fun l h'=>HFrame h h' [] []∧h.n+5≤h'.n∧h'.get h.n=.cells 0 false [.ptr g.c 0 0]∧h'.get (h.n+1)=.cells 0 false [.int .i64 (c:Int)]∧h'.get (h.n+2)=.cells 0 false [.nilp]∧h'.get (h.n+3)=.cells 0 false [.ptr g.t 0 0] ∧
  h'.get (h.n+4)=lo∧∃ b1 b2,m.bl=b1++b2∧l=b1.map Blk.sp∧∀ b,b∈b1→Blk.can c b=false)
  (fun h'=>HFrame h h' [] []∧h.n+5≤h'.n∧(∃ b,m.spare c=some b∧h'.get (h.n+2)=.cells 0 false [.ptr (g.ι b.a) 0 0])∧∃ as2 bd,h'.get (h.n+4)=.loop 2 (some .ret) e [12] as2 bd) ?_ ?_ ?_ ?_) ?_
 ·rintro l h' h'' ⟨f,n4,q0,q1,q2,q3,q4,z⟩ f2
  have hn:=f2.n
  exact ⟨f.trans f2,by omega,(f2.get _ (by omega) (by simp)).trans q0,(f2.get _ (by omega) (by simp)).trans q1,(f2.get _ (by omega) (by simp)).trans q2,(f2.get _ (by omega) (by simp)).trans q3,(f2.get _ (by omega) (by simp)).trans q4,z⟩
 ·rintro l h' ⟨f,n4,q0,q1,q2,q3,q4,z⟩
  exact ⟨⟨lv,(R.keep f).T⟩,q3,by omega⟩
 ·rintro l hp h' s rest ⟨f,n4,q0,q1,q2,q3,q4,b1,b2,z1,z2,z3⟩ f2 hr
  have hn:=f2.n
  replace q0:=(f2.get _ (by omega) (by simp)).trans q0
  replace q1:=(f2.get _ (by omega) (by simp)).trans q1
  replace q2:=(f2.get _ (by omega) (by simp)).trans q2
  replace q3:=(f2.get _ (by omega) (by simp)).trans q3
  replace q4:=(f2.get _ (by omega) (by simp)).trans q4
  replace f:=f.trans f2
  obtain ⟨b,b2',hb2,rfl⟩:∃ b b2',b2=b::b2'∧s=b.sp:=by
   unfold Cm.L at hr
   rw [z1,z2,List.map_append] at hr
   have:=List.append_cancel_left hr
   cases b2 with
   | nil=>simp at this
   | cons b b2'=>simp at this;exact ⟨b,b2',rfl,this.1.symm⟩
  subst hb2
  have hb:b∈m.bl:=by rw [z1];simp
  rw [←hLo] at q4
  refine AM.yldP q4 rfl ?_
  generalize hQr:(fun (r:AVal) (h':AHeap)=>_∨_)=Qr
  simp only [AM.putAll]
  simp -implicitDefEqProofs (disch:=first|exact dz _|fail) only [↓AM.R0,AM.R1,AM.R2,reduceAdd,reduceLeDiff,reduceEqDiff,reduceToNat,Nat.reduceLT,↓reduceIte,reduceEq,Int.reduceLT,reduceLE,encT]
  have fq:=((HFrame.refl (h:=h') (F:=[]) (by simp)).pushTmp (.cells 0 false [.int .i64 0,.int .i64 0,.int .i64 0])).setTmp (i:=h'.n) (Nat.le_refl _) (.cells 0 false (encT b.sp))
  have gq:((h'.push (.cells 0 false [.int .i64 0,.int .i64 0,.int .i64 0])).set h'.n (.cells 0 false (encT b.sp))).get h'.n=.cells 0 false (encT b.sp):=AHeap.get_set_same _ _ _
  have nq:((h'.push (.cells 0 false [.int .i64 0,.int .i64 0,.int .i64 0])).set h'.n (.cells 0 false (encT b.sp))).n=h'.n+1:=by simp
  simp only [encT] at fq gq nq
  generalize hq:(h'.push (.cells 0 false [.int .i64 0,.int .i64 0,.int .i64 0])).set h'.n (.cells 0 false [.int .i64 (b.sp.a:Int),.int .i64 (b.sp.k:Int),.int .i64 b.sp.t])=hr' at *
  have p0:=(fq.get _ (by omega) (by simp)).trans q0
  have p1:=(fq.get _ (by omega) (by simp)).trans q1
  have p2:=(fq.get _ (by omega) (by simp)).trans q2
  have p3:=(fq.get _ (by omega) (by simp)).trans q3
  have p4:=(fq.get _ (by omega) (by simp)).trans q4
  have fp:=f.trans fq
  refine AM.asgQ_of p4 ?_
  generalize hL1:AObj.loop 1 none e [12] _ _=lo1
  have F5:=fp.setTmp (i:=h.n+4) (by omega) lo1
  have n5:(hr'.set (h.n+4) lo1).n=hr'.n:=by simp
  have r0:(hr'.set (h.n+4) lo1).get h.n=.cells 0 false [.ptr g.c 0 0]:=by rw [AHeap.get_set_ne _ _ (by omega),p0]
  have r1:(hr'.set (h.n+4) lo1).get (h.n+1)=.cells 0 false [.int .i64 (c:Int)]:=by rw [AHeap.get_set_ne _ _ (by omega),p1]
  have r2:(hr'.set (h.n+4) lo1).get (h.n+2)=.cells 0 false [.nilp]:=by rw [AHeap.get_set_ne _ _ (by omega),p2]
  have r3:(hr'.set (h.n+4) lo1).get (h.n+3)=.cells 0 false [.ptr g.t 0 0]:=by rw [AHeap.get_set_ne _ _ (by omega),p3]
  have r4:(hr'.set (h.n+4) lo1).get (h.n+4)=lo1:=AHeap.get_set_same _ _ _
  have rq:(hr'.set (h.n+4) lo1).get h'.n=.cells 0 false [.int .i64 (b.sp.a:Int),.int .i64 (b.sp.k:Int),.int .i64 b.sp.t]:=by rw [AHeap.get_set_ne _ _ (by omega),gq]
  have rj:∀ j,j<h'.n→j≠h.n+4→(hr'.set (h.n+4) lo1).get j=h'.get j:=fun j hj hn=>by rw [AHeap.get_set_ne _ _ hn];exact fq.get j hj (by simp)
  generalize hr'.set (h.n+4) lo1=h5 at *
  have fin:∀ h6,HFrame h5 h6 [] []→Blk.can c b=false→AM.roundQ (h.n+4) none Qr h6:=fun h6 f6 hcan=>by
   have n6:=f6.n
   have s4:=(f6.get (h.n+4) (by omega) (by simp)).trans r4
   subst hL1
   refine AM.roundQ_of s4 ?_
   subst hQr
   refine .inl ⟨rfl,⟨(F5.trans f6).setTmp (by omega) _,by simp;omega,?_,?_,?_,?_,?_,b1++[b],b2',by rw [z1];simp,by rw [z2];simp,fun x hx=>?_⟩,by simp;omega,fun j j1 j2=>?_⟩
   ·rw [AHeap.get_set_ne _ _ (by omega),f6.get _ (by omega) (by simp),r0]
   ·rw [AHeap.get_set_ne _ _ (by omega),f6.get _ (by omega) (by simp),r1]
   ·rw [AHeap.get_set_ne _ _ (by omega),f6.get _ (by omega) (by simp),r2]
   ·rw [AHeap.get_set_ne _ _ (by omega),f6.get _ (by omega) (by simp),r3]
   ·rw [AHeap.get_set_same,←hLo];rfl
   ·rcases List.mem_append.1 hx with q | q
    ·exact z3 x q
    ·simp at q;rw [q];exact hcan
   ·rw [AHeap.get_set_ne _ _ (by omega),f6.get _ (by omega) (by simp),rj j j2 (by omega)]
  have R5:=R.keep F5
  have lq:h'.n<h5.n:=by omega
  have ea:b.sp.a=b.a:=rfl
  rw [ea] at rq
  have gc5:=R5.obj
  have gm5:=R5.map
  have lc5:g.c<h5.n:=R5.lt (by rw [R.kc.1];decide)
  by_cases hc2:b.c=-2
  ·have lk:=lk_out gm5 R.bn (bm_out R hb hc2) .nilp
   simp -implicitDefEqProofs (disch:=first|exact dz _|fail) only [↓AM.R0,AM.R1,AM.R2,reduceAdd,reduceLeDiff,reduceEqDiff,reduceToNat,Nat.reduceLT,↓reduceIte,reduceEq,Int.reduceLT,reduceLE,e2,e3,e4,r0,gc5,rq,a_lookup,lk]
   exact fin h5 (HFrame.refl (by simp)) (by unfold Blk.can;rw [decide_eq_false (by omega),Bool.false_and])
  have lk:=lk_in gm5 R.bn (bm_in R hb hc2) .nilp
  obtain ⟨gb,lb⟩:=R5.gb hb hc2
  by_cases hcc:b.c=(c:Int)
  rotate_left
  ·have d1:decide (b.c=(c:Int))=false:=decide_eq_false hcc
   simp -implicitDefEqProofs (disch:=first|exact dz _|fail) only [↓AM.R0,AM.R1,AM.R2,reduceAdd,reduceLeDiff,reduceEqDiff,reduceToNat,Nat.reduceLT,↓reduceIte,reduceEq,Int.reduceLT,reduceLE,e2,e3,e4,r0,r1,gc5,rq,a_lookup,lk,gb,d1]
   exact fin h5 (HFrame.refl (by simp)) (by unfold Blk.can;rw [d1,Bool.false_and])
  have d1:decide (b.c=(c:Int))=true:=decide_eq_true hcc
  cases hw:b.w.isSome with
  | true =>
   rw [hw] at gb
   simp -implicitDefEqProofs (disch:=first|exact dz _|fail) only [↓AM.R0,AM.R1,AM.R2,reduceAdd,reduceLeDiff,reduceEqDiff,reduceToNat,Nat.reduceLT,↓reduceIte,reduceEq,Int.reduceLT,reduceLE,e2,e3,e4,r0,r1,gc5,rq,a_lookup,lk,gb,d1]
   exact fin h5 (HFrame.refl (by simp)) (by unfold Blk.can;rw [d1,Option.isNone_eq_false_iff.2 hw,Bool.false_and,Bool.and_false])
  | false =>
   rw [hw] at gb
   simp -implicitDefEqProofs (disch:=first|exact dz _|fail) only [↓AM.R0,AM.R1,AM.R2,reduceAdd,reduceLeDiff,reduceEqDiff,reduceToNat,Nat.reduceLT,↓reduceIte,reduceEq,Int.reduceLT,reduceLE,e2,e3,e4,r0,r1,gc5,rq,a_lookup,lk,gb,d1]
   refine AM.trCall_of (fullB R5 hb hc hcc) ?_
   rintro r h6 ⟨f6,rfl⟩
   simp -implicitDefEqProofs (disch:=first|exact dz _|fail) only [↓AM.R0,AM.R1,AM.R2,reduceAdd,reduceLeDiff,reduceEqDiff,reduceToNat,Nat.reduceLT,↓reduceIte,reduceEq,Int.reduceLT,reduceLE]
   have n6:=f6.n
   have s2:=(f6.get (h.n+2) (by omega) (by simp)).trans r2
   have s4:=(f6.get (h.n+4) (by omega) (by simp)).trans r4
   have hcan:Blk.can c b=!b.full:=by
    have hx:b.w.isNone=true:=by rw [Option.isNone_iff_eq_none];rw [Option.isSome_eq_false_iff,Option.isNone_iff_eq_none] at hw;exact hw
    unfold Blk.can;rw [d1,hx,Bool.true_and,Bool.true_and]
   refine AM.cI_bool (fun hfl=>?_) (fun hfl=>?_)
   ·rw [hfl] at hcan
    have hm:m.spare c=some b:=by
     unfold Cm.spare
     rw [z1,List.find?_append,List.find?_eq_none.2 (fun x hx=>by rw [z3 x hx];simp)]
     rw [List.find?_cons,hcan];rfl
    simp -implicitDefEqProofs (disch:=first|exact dz _|fail) only [↓AM.R0,AM.R1,AM.R2,reduceAdd,reduceLeDiff,reduceEqDiff,reduceToNat,Nat.reduceLT,↓reduceIte,reduceEq,Int.reduceLT,reduceLE,s2,e4]
    subst hL1
    refine AM.roundQ_of (by rw [AHeap.get_set_ne _ _ (by omega)];exact s4) ?_
    subst hQr
    refine .inr ⟨rfl,((F5.trans f6).setTmp (by omega) _).setTmp (by omega) _,by simp;omega,⟨b,hm,?_⟩,_,_,AHeap.get_set_same _ _ _⟩
    rw [AHeap.get_set_ne _ _ (by omega),AHeap.get_set_same]
   ·rw [hfl] at hcan
    simp -implicitDefEqProofs (disch:=first|exact dz _|fail) only [↓AM.R0,AM.R1,AM.R2,reduceAdd,reduceLeDiff,reduceEqDiff,reduceToNat,Nat.reduceLT,↓reduceIte,reduceEq,Int.reduceLT,reduceLE]
    exact fin h6 f6 hcan
 ·refine ⟨f1.pushTmp _,by simp [n1],?_,?_,?_,?_,?_,[],m.bl,rfl,rfl,by simp⟩
  ·rw [AHeap.get_push_ne _ _ (by omega),g0]
  ·rw [AHeap.get_push_ne _ _ (by omega),g2]
  ·rw [AHeap.get_push_ne _ _ (by omega),g3]
  ·rw [AHeap.get_push_ne _ _ (by omega),g4]
  ·rw [←n1,AHeap.get_push_same]
 ·rintro r h' (⟨f,n4,q0,q1,q2,q3,q4,b1,b2,z1,z2,z3⟩ | ⟨f,n4,⟨b,hb,q2⟩,as2,bd,q4⟩)
  ·rw [←hLo] at q4
   refine AM.rangeQ_of q4 (by decide) ?_
   simp only [AM.pendX]
   generalize hL1:AObj.loop 3 none e [12] _ _=lo1
   have F5:=f.setTmp (i:=h.n+4) (by omega) lo1
   have r2:(h'.set (h.n+4) lo1).get (h.n+2)=.cells 0 false [.nilp]:=by rw [AHeap.get_set_ne _ _ (by omega),q2]
   have n5:(h'.set (h.n+4) lo1).n=h'.n:=by simp
   generalize h'.set (h.n+4) lo1=h5 at *
   have l2:h.n+2<h5.n:=by omega
   simp -implicitDefEqProofs (disch:=first|exact dz _|fail) only [↓AM.R0,AM.R1,AM.R2,reduceAdd,reduceLeDiff,reduceEqDiff,reduceToNat,Nat.reduceLT,↓reduceIte,reduceEq,Int.reduceLT,reduceLE,e4,r2]
   subst hQ
   refine ⟨F5.setTmp (by omega) _,?_⟩
   have hnil:b2=[]:=by
    have h3:m.bl.length=b1.length:=by
     have:=congrArg List.length z2
     simpa [Cm.L] using this
    rw [z1,List.length_append] at h3
    exact List.eq_nil_of_length_eq_zero (by omega)
   have hno:m.spare c=none:=by
    unfold Cm.spare
    rw [z1,hnil,List.append_nil,List.find?_eq_none]
    intro x hx;rw [z3 x hx];simp
   rw [hno]
  ·refine AM.rangeQ_of q4 (by decide) ?_
   simp only [AM.pendX,AJump.exitOf]
   generalize hL1:AObj.loop 3 _ e [12] _ _=lo1
   have F5:=f.setTmp (i:=h.n+4) (by omega) lo1
   have r2:(h'.set (h.n+4) lo1).get (h.n+2)=.cells 0 false [.ptr (g.ι b.a) 0 0]:=by rw [AHeap.get_set_ne _ _ (by omega),q2]
   have n5:(h'.set (h.n+4) lo1).n=h'.n:=by simp
   generalize h'.set (h.n+4) lo1=h5 at *
   have l2:h.n+2<h5.n:=by omega
   simp -implicitDefEqProofs (disch:=first|exact dz _|fail) only [↓AM.R0,AM.R1,AM.R2,reduceAdd,reduceLeDiff,reduceEqDiff,reduceToNat,Nat.reduceLT,↓reduceIte,reduceEq,Int.reduceLT,reduceLE,e4,r2]
   subst hQ
   rw [hb]
   exact ⟨F5,rfl⟩
end Go.Proofs.YthillgheddpmhaaDoor.Pg
namespace Go.Proofs.YthillgheddpmhaaDoor.Pg
open Go Go.AM Go.Proofs.YthillgheddpmhaaDoor.AmGJ
open Nat (reduceAdd reduceLeDiff reduceEqDiff)
open Int (reduceToNat reduceEq reduceLE)
variable {h h':AHeap} {g g':CG} {ws:List Nat} {lv:List (List Sm)} {bs:List Nat} {m:Cm} {cn wn:Int}
theorem CellP.K0 (R:CellP h g ws lv bs m cn wn):g.K 0=0:=by
 cases e:g.K 0 with
 | zero=>rfl
 | succ x=>exact absurd rfl (R.k0 0 (by omega)).1
theorem CFr.tabR (F:CFr h h' g g') (k:g.K 0=0) (T:TabR h):TabR h':=⟨(F.get 0 T.2 k).trans T.1,Nat.lt_of_lt_of_le T.2 F.n⟩
theorem CFr.put (F:CFr h h' g g) {a i:Nat} (hi:h.n≤i):CFr h h' g (g.put a i):=⟨F.n,F.G,F.get,fun j hj=>by
 show (if j=i then 5 else g.K j)=g.K j
 rw [if_neg (by omega)],rfl⟩
def Cm.drop (m:Cm) (b:Blk):Cm:=if b.u=0∧b.w=none then m.rem b.a else m
set_option maxHeartbeats 4000000 in
theorem dropC (T:TabR h) (R:CellP h g ws lv bs m cn wn) {b:Blk} (hb:b∈m.bl) (hc:b.c≠-2):CallP AP 73 [.ptr g.c 0 0,.ptr (g.ι b.a) 0 0] h fun r h'=>∃ ws' lv' bs',CFr h h' g g∧CellP h' g ws' lv' bs' (m.drop b) cn wn:=by
 refine callP (rfl:Tr.get AP 73=some A73) ?_
 generalize hQ:(fun (r:AVal) (h':AHeap)=>_)=Q
 have g1:=R.obj
 have lc:g.c<h.n:=R.lt (by rw [R.kc.1];decide)
 have lm:g.mi<h.n:=R.lt (by rw [R.kc.2.1];decide)
 obtain ⟨gb,lb⟩:=R.gb hb hc
 by_cases hu:b.u=0
 rotate_left
 ·have d1:decide ((b.u:Int)=0)=false:=decide_eq_false (by omega)
  simp -implicitDefEqProofs (disch:=first|exact dz _|fail) only [↓AM.R0,AM.R1,AM.R2,reduceAdd,reduceLeDiff,reduceEqDiff,reduceToNat,Nat.reduceLT,↓reduceIte,reduceEq,Int.reduceLT,reduceLE,gb,d1]
  subst hQ
  exact ⟨ws,lv,bs,CFr.refl h g,by unfold Cm.drop;rw [if_neg (fun e=>hu e.1)];exact R⟩
 have d1:decide ((b.u:Int)=0)=true:=decide_eq_true (by omega)
 cases hw:b.w with
 | some p =>
  rw [hw] at gb
  simp only [Option.isSome_some] at gb
  simp -implicitDefEqProofs (disch:=first|exact dz _|fail) only [↓AM.R0,AM.R1,AM.R2,reduceAdd,reduceLeDiff,reduceEqDiff,reduceToNat,Nat.reduceLT,↓reduceIte,reduceEq,Int.reduceLT,reduceLE,gb,d1]
  subst hQ
  exact ⟨ws,lv,bs,CFr.refl h g,by unfold Cm.drop;rw [if_neg (fun e=>by rw [hw] at e;cases e.2)];exact R⟩
 | none =>
  rw [hw] at gb
  simp only [Option.isSome_none] at gb
  have md:=md_in R.map R.bn (bm_in R hb hc)
  have ne:g.c≠g.mi:=fun e=>by have:=R.kc;rw [e] at this;omega
  have nb:g.ι b.a≠g.mi:=fun e=>by have:=R.kc;have h2:=R.kb b hb hc;rw [e] at h2;omega
  have F1:=(CFr.refl h g).set (i:=g.mi) (fun _=>by rw [R.kc.2.1];decide) (.map ((bs.filter (· != b.a)).map (ent g.ι)))
  have fm:=HFrame.set h g.mi (.map ((bs.filter (· != b.a)).map (ent g.ι))) (F:=[g.mi]) (by simp) (by simpa using lm)
  have T1:TabR (h.set g.mi (.map ((bs.filter (· != b.a)).map (ent g.ι)))):=F1.tabR R.K0 T
  have Tt:=R.T.keepD fm fun j hj=>by simp;rintro rfl;have:=R.kt _ hj;have:=R.kc;omega
  simp -implicitDefEqProofs (disch:=first|exact dz _|fail) only [↓AM.R0,AM.R1,AM.R2,reduceAdd,reduceLeDiff,reduceEqDiff,reduceToNat,Nat.reduceLT,↓reduceIte,reduceEq,Int.reduceLT,reduceLE,gb,d1,g1,a_delete,md]
  refine AM.trCall_of (freeS T1 Tt R.n0 (b.a:Int)) ?_
  rintro r h2 ⟨ws2,lv2,L2,f2,T2,F2⟩
  have hs:b.sp∈m.L:=List.mem_map.2 ⟨b,hb,rfl⟩
  obtain ⟨_,rfl,rfl⟩:=FreeS.yes (s:=b.sp) R.T.I hs F2
  have T2':TabP h2 g.t g.so g.oo g.p m.n ws2 lv2 (m.rem b.a).L:=by rw [rem_sp];exact T2
  have R2:=R.remB hb hc hw f2 T2'
  simp -implicitDefEqProofs (disch:=first|exact dz _|fail) only [↓AM.R0,AM.R1,AM.R2,reduceAdd,reduceLeDiff,reduceEqDiff,reduceToNat,Nat.reduceLT,↓reduceIte,reduceEq,Int.reduceLT,reduceLE]
  subst hQ
  exact ⟨ws2,lv2,bs.filter (· != b.a),F1.left f2 R.tabF,by unfold Cm.drop;rw [if_pos ⟨hu,hw⟩];exact R2⟩
def Cm.fit (m:Cm) (k:Nat):Option Nat:=Pg.fit m.f m.n k
set_option maxHeartbeats 4000000 in
theorem blockC (T:TabR h) (R:CellP h g ws lv bs m cn wn) {k:Nat} {c:Int} (hk:1≤k) (hc:c=-1∨∃ d:Nat,d<16∧c=(d:Int)∧k=pageT.getD d 0):CallP AP 67 [.ptr g.c 0 0,.int .i64 (k:Int),.int .i64 c] h fun r h'=>∃ ws' lv',
  (m.fit k=none∧CFr h h' g g∧CellP h' g ws' lv' bs m cn wn∧r=.tup [.nilp,.int .i64 3]) ∨
  (∃ a i,m.fit k=some a∧FirstAt m.f k a∧CFr h h' g (g.put a i)∧CellP h' (g.put a i) ws' lv' (bs++[a]) (m.ins ⟨a,k,c,0,none⟩) cn wn∧(g.put a i).ι a=i∧r=.tup [.ptr i 0 0,.int .i64 0]):=by
 refine callP (rfl:Tr.get AP 67=some A67) ?_
 generalize hQ:(fun (r:AVal) (h':AHeap)=>_)=Q
 have g1:=R.obj
 have lc:g.c<h.n:=R.lt (by rw [R.kc.1];decide)
 have lm:g.mi<h.n:=R.lt (by rw [R.kc.2.1];decide)
 have w1:IntKind.i64.wrap (c+1)=c+1:=wrap64 (by omega) (by omega)
 simp -implicitDefEqProofs (disch:=first|exact dz _|fail) only [↓AM.R0,AM.R1,AM.R2,reduceAdd,reduceLeDiff,reduceEqDiff,reduceToNat,Nat.reduceLT,↓reduceIte,reduceEq,Int.reduceLT,reduceLE,g1,w1]
 refine AM.callI_of (allocS T R.T R.n0 (k:Int) (c+1)) ?_
 rintro r h2 ⟨ws2,lv2,L2,f2,T2,v,A1,A2⟩
 have F2:CFr h h2 g g:=(CFr.refl h g).left f2 R.tabF
 have hn:=f2.n
 rw [R.f] at A1
 rcases A2 with ⟨e,e0,rfl,rfl,rfl⟩ | ⟨a,rfl,k1,rfl,rfl⟩
 ·have hno:(∀ q,¬ Row m.f q k)∧e=3∧fw ws2=m.f:=by
   rcases A1 with ⟨q,_⟩ | ⟨_,q,qf,qe⟩ | ⟨_,x,_,_,qe⟩
   ·omega
   ·rw [Int.toNat_natCast] at q;simp at qe;exact ⟨q,qe,qf⟩
   ·simp at qe;omega
  obtain ⟨n1,rfl,n3⟩:=hno
  have R2:=R.tab R.I rfl rfl f2 T2 (fun _ _=>Iff.rfl)
  have ez:encT zSp=[.int .i64 0,.int .i64 0,.int .i64 0]:=rfl
  simp -implicitDefEqProofs (disch:=first|exact dz _|fail) only [↓AM.R0,AM.R1,AM.R2,reduceAdd,reduceLeDiff,reduceEqDiff,reduceToNat,Nat.reduceLT,↓reduceIte,reduceEq,Int.reduceLT,reduceLE,ez]
  subst hQ
  have ft:=((HFrame.refl (h:=h2) (F:=[]) (by simp)).pushTmp (.cells 0 false [.int .i64 0,.int .i64 0,.int .i64 0])).setTmp (i:=h2.n) (Nat.le_refl _) (.cells 0 false [.int .i64 0,.int .i64 0,.int .i64 0])
  exact ⟨ws2,lv2,.inl ⟨(fit_none hk (fun q=>f_out m)).2 n1,F2.tmp ft,R2.keep ft,rfl⟩⟩
 ·obtain ⟨fa,hg⟩:FirstAt m.f k a∧(∀ q:Nat,fw ws2 q=if a≤q∧q<a+k then false else m.f q):=by
   rcases A1 with ⟨q,_⟩ | ⟨_,q,qf,qe⟩ | ⟨_,x,q1,q2,qe⟩
   ·omega
   ·simp at qe
   ·simp at qe
    obtain rfl:a=x:=by omega
    rw [Int.toNat_natCast] at q1 q2;exact ⟨q1,q2⟩
  have new:=R.I.new (b:=⟨a,k,c,0,none⟩) hk fa
  have I':CInv (m.ins ⟨a,k,c,0,none⟩):=R.I.ins hk fa (by
   rcases hc with q | ⟨d,q1,q2,q3⟩
   ·exact .inr (.inl ⟨q,by simp,rfl⟩)
   ·exact .inr (.inr ⟨d,q1,q2,q3,Nat.pos_of_ne_zero (by simp)⟩)) rfl
  rw [Int.toNat_natCast] at T2
  have hsp:(m.ins ⟨a,k,c,0,none⟩).L=insF m.L ⟨a,k,c+1⟩:=by
   rw [ins_sp]
   have:(⟨a,k,c,0,none⟩:Blk).sp=⟨a,k,c+1⟩:=by unfold Blk.sp;simp only;rw [if_neg (by rcases hc with q | ⟨d,q1,q2,q3⟩<;>omega)]
   rw [this]
  have g2:∀ j,g.K j≠0→g.K j≠6→h2.get j=h.get j:=fun j q1 q2=>f2.get j (R.lt q1) fun hm=>q2 (R.kt j hm)
  have gm2:=(g2 g.mi (by rw [R.kc.2.1];decide) (by rw [R.kc.2.1];decide)).trans R.map
  have gc2:=(g2 g.c (by rw [R.kc.1];decide) (by rw [R.kc.1];decide)).trans g1
  have hna:a ∉ bs:=fun hm=>by
   obtain ⟨x,hx,e,_⟩:=(R.bm a).1 hm
   exact new x hx e
  have ft:=(((HFrame.refl (h:=h2) (F:=[]) (by simp)).pushTmp (.cells 0 false [.int .i64 0,.int .i64 0,.int .i64 0])).setTmp (i:=h2.n) (Nat.le_refl _) (.cells 0 false [.int .i64 (a:Int),.int .i64 (k:Int),.int .i64 (c+1)])).pushTmp (.cells 0 false [.int .i64 (a:Int),.int .i64 (k:Int),.int .i64 (c+1),.int .i64 c,.int .u64 0,.bool false])
  have n3:(((h2.push (.cells 0 false [.int .i64 0,.int .i64 0,.int .i64 0])).set h2.n (.cells 0 false [.int .i64 (a:Int),.int .i64 (k:Int),.int .i64 (c+1)])).push (.cells 0 false [.int .i64 (a:Int),.int .i64 (k:Int),.int .i64 (c+1),.int .i64 c,.int .u64 0,.bool false])).n=h2.n+2:=by simp
  have gB:(((h2.push (.cells 0 false [.int .i64 0,.int .i64 0,.int .i64 0])).set h2.n (.cells 0 false [.int .i64 (a:Int),.int .i64 (k:Int),.int .i64 (c+1)])).push (.cells 0 false [.int .i64 (a:Int),.int .i64 (k:Int),.int .i64 (c+1),.int .i64 c,.int .u64 0,.bool false])).get (h2.n+1)=.cells 0 false (encB ⟨a,k,c,0,none⟩):=AHeap.get_push_same _ _
  have gT:(((h2.push (.cells 0 false [.int .i64 0,.int .i64 0,.int .i64 0])).set h2.n (.cells 0 false [.int .i64 (a:Int),.int .i64 (k:Int),.int .i64 (c+1)])).push (.cells 0 false [.int .i64 (a:Int),.int .i64 (k:Int),.int .i64 (c+1),.int .i64 c,.int .u64 0,.bool false])).get h2.n=.cells 0 false [.int .i64 (a:Int),.int .i64 (k:Int),.int .i64 (c+1)]:=by rw [AHeap.get_push_ne _ _ (by simp),AHeap.get_set_same]
  simp -implicitDefEqProofs (disch:=first|exact dz _|fail) only [↓AM.R0,AM.R1,AM.R2,reduceAdd,reduceLeDiff,reduceEqDiff,reduceToNat,Nat.reduceLT,↓reduceIte,reduceEq,Int.reduceLT,reduceLE,encT,gc2]
  generalize ((h2.push (.cells 0 false [.int .i64 0,.int .i64 0,.int .i64 0])).set h2.n (.cells 0 false [.int .i64 (a:Int),.int .i64 (k:Int),.int .i64 (c+1)])).push (.cells 0 false [.int .i64 (a:Int),.int .i64 (k:Int),.int .i64 (c+1),.int .i64 c,.int .u64 0,.bool false])=h3 at *
  have lm2:g.mi<h2.n:=Nat.lt_of_lt_of_le lm hn
  have gm3:=(ft.get g.mi lm2 (by simp)).trans gm2
  have gc3:=(ft.get g.c (Nat.lt_of_lt_of_le lc hn) (by simp)).trans gc2
  have mu:=mu_new gm3 R.bn hna (h2.n+1) 0
  have lT:h2.n<h3.n:=by omega
  have F3:=F2.tmp ft
  have F4:=F3.set (i:=g.mi) (fun _=>by rw [R.kc.2.1];decide) (.map (bs.map (ent g.ι)++[(.int .i64 (a:Int),.ptr (h2.n+1) 0 0)]))
  have fm:=HFrame.set h3 g.mi (.map (bs.map (ent g.ι)++[(.int .i64 (a:Int),.ptr (h2.n+1) 0 0)])) (F:=[g.mi]) (by simp) (by simp;omega)
  have T4:=(T2.keep ft).keepD fm fun j hj=>by simp;rintro rfl;have:=R.kt _ hj;have:=R.kc;omega
  have R4:=R.insB (b:=⟨a,k,c,0,none⟩) (i:=h2.n+1) I' (by show c≠-2;rcases hc with q | ⟨d,q1,q2,q3⟩<;>omega) rfl new F4.n (by omega) (by show h2.n+1<h3.n;omega) (fun j q1 q2 q3=>by
   rw [AHeap.get_set_ne _ _ (by rintro rfl;exact q3 R.kc.2.1),ft.get j (Nat.lt_of_lt_of_le (R.lt q1) hn) (by simp)];exact g2 j q1 q2) (by rw [hsp];exact T4) (AHeap.get_set_same _ _ _) (by rw [AHeap.get_set_ne _ _ (by omega)];exact gB)
  simp -implicitDefEqProofs (disch:=first|exact dz _|fail) only [↓AM.R0,AM.R1,AM.R2,reduceAdd,reduceLeDiff,reduceEqDiff,reduceToNat,Nat.reduceLT,↓reduceIte,reduceEq,Int.reduceLT,reduceLE,gT,a_mapUpd,mu]
  subst hQ
  exact ⟨ws2,lv2,.inr ⟨a,h2.n+1,(fit_some hk (fun q=>f_out m)).2 fa,fa,F4.put (by omega),R4,if_pos rfl,rfl⟩⟩
end Go.Proofs.YthillgheddpmhaaDoor.Pg
namespace Go.Proofs.YthillgheddpmhaaDoor.Pg
open Go Go.AM Go.Proofs.YthillgheddpmhaaDoor.AmGJ
open Nat (reduceAdd reduceLeDiff reduceEqDiff)
open Int (reduceToNat reduceEq reduceLE)
variable {h h':AHeap} {g g':CG} {ws:List Nat} {lv:List (List Sm)} {bs:List Nat} {m:Cm} {cn wn:Int}
def Cm.pick2 (m:Cm) (p c:Nat):Option Nat×Cm:=match m.spare c with
 | some b=>(some b.a,m.upd b.a (Blk.setW (some p)))
 | none=>match m.fit (pageT.getD c 0) with
  | none=>(none,m)
  | some a=>(some a,(m.ins ⟨a,pageT.getD c 0,c,0,none⟩).upd a (Blk.setW (some p)))
def Cm.pick (m:Cm) (p c:Nat):Option Nat×Cm:=match m.held p c with
 | some b=>if b.full then (m.upd b.a (Blk.setW none)).pick2 p c else (some b.a,m)
 | none=>m.pick2 p c
theorem hold_at (g:CG) (m:Cm) {p:Nat} (hp:p<m.pr):(holdV g m)[p]?=some (.sl (g.ρ p) 0 0 16 1):=by
 unfold holdV;rw [List.getElem?_map,List.getElem?_range hp];rfl
theorem spare_mem {c:Nat} {b:Blk} (h:m.spare c=some b):b∈m.bl∧b.c=(c:Int)∧b.w=none∧b.full=false:=by
 have h3:=List.find?_some h
 have h4:=List.mem_of_find?_eq_some h
 unfold Blk.can at h3
 simp only [Bool.and_eq_true,decide_eq_true_eq,Option.isNone_iff_eq_none,Bool.not_eq_true'] at h3
 exact ⟨h4,h3.1,h3.2.1,h3.2.2⟩
theorem pc_zero:∀ n,pc n 0=0
 | 0=>rfl
 | n+1=>by rw [pc,Nat.zero_mod,Nat.zero_div,pc_zero n]
theorem held_upd_none (I:CInv m) {b:Blk} {p c:Nat} (hb:m.held p c=some b):(m.upd b.a (Blk.setW none)).held p c=none:=by
 obtain ⟨h1,h2,h3⟩:=held_mem hb
 rw [held_none]
 rintro x hx ⟨q1,q2⟩
 rcases mem_upd.1 hx with ⟨y,hy,e,rfl⟩ | ⟨hy,e⟩
 ·cases q2
 ·exact e (I.H x b p hy h1 q2 h3 (q1.trans h2.symm))
theorem held_ins {b:Blk} (hw:b.w=none) {p c:Nat} (hn:m.held p c=none):(m.ins b).held p c=none:=by
 rw [held_none] at hn ⊢
 intro x hx hh
 rcases mem_insB.1 hx with rfl | e
 ·rw [hw] at hh;cases hh.2
 ·exact hn x e hh
def PickR (h h':AHeap) (g:CG) (m:Cm) (cn wn:Int) (p c:Nat) (r:AVal):Prop:=∃ g' ws' lv' bs',CFr h h' g g'∧CellP h' g' ws' lv' bs' (m.pick p c).2 cn wn ∧
 (((m.pick p c).1=none∧r=.tup [.nilp,.int .i64 3])∨∃ b,(m.pick p c).1=some b.a∧b∈(m.pick p c).2.bl∧b.c=(c:Int)∧b.w=some p∧b.full=false∧r=.tup [.ptr (g'.ι b.a) 0 0,.int .i64 0])
set_option maxHeartbeats 16000000 in
theorem takeC (T:TabR h) (R:CellP h g ws lv bs m cn wn) {p c:Nat} (hp:p<m.pr) (hc:c<16):CallP AP 69 [.ptr g.c 0 0,.int .i64 (p:Int),.int .i64 (c:Int)] h fun r h'=>PickR h h' g m cn wn p c r:=by
 refine callP (rfl:Tr.get AP 69=some A69) ?_
 generalize hQ:(fun (r:AVal) (h':AHeap)=>_)=Q
 have g1:=R.obj
 have lc:g.c<h.n:=R.lt (by rw [R.kc.1];decide)
 have lh:g.hi<h.n:=R.lt (by rw [R.kc.2.2];decide)
 have lr:g.ρ p<h.n:=R.lt (by rw [R.kr p hp];decide)
 have gh:=R.hold
 have gr:=R.row p hp
 have ha:=hold_at g m hp
 have x1:=ix1 gh (len:=m.pr) (i:=p) hp
 have x2:=ix1 gr (len:=16) (i:=c) hc
 have ra:=row_at g m p hc
 cases hh:m.held p c with
 | none =>
  have hnone:=hh
  have hfin:m.pick p c=m.pick2 p c:=by unfold Cm.pick;rw [hh]
  have hnv:hv g.ι m p c=.nilp:=by unfold hv;rw [hh]
  rw [hnv] at ra
  simp -implicitDefEqProofs (disch:=first|exact dz _|fail) only [↓AM.R0,AM.R1,AM.R2,reduceAdd,reduceLeDiff,reduceEqDiff,reduceToNat,Nat.reduceLT,↓reduceIte,reduceEq,Int.reduceLT,reduceLE,g1,gh,gr,ha,x1,x2,ra]
  have F0:=CFr.refl h g
  refine AM.callI_of (spareC R hc) ?_
  rintro r h2 ⟨f2,rfl⟩
  have R2:=R.keep f2
  have F2:=(F0).tmp f2
  cases hsp:m.spare c with
  | some b =>
   obtain ⟨hbm,hbc,hbw,hbf⟩:=spare_mem hsp
   simp -implicitDefEqProofs (disch:=first|exact dz _|fail) only [↓AM.R0,AM.R1,AM.R2,reduceAdd,reduceLeDiff,reduceEqDiff,reduceToNat,Nat.reduceLT,↓reduceIte,reduceEq,Int.reduceLT,reduceLE]
   have gcS:=R2.obj
   have ghS:=R2.hold
   have grS:=R2.row p hp
   have haS:=hold_at g m (p:=p) hp
   have raS:=row_at g m p hc
   have lcS:g.c<h2.n:=R2.lt (by rw [R2.kc.1];decide)
   have lhS:g.hi<h2.n:=R2.lt (by rw [R2.kc.2.2];decide)
   have lrS:g.ρ p<h2.n:=R2.lt (by rw [R2.kr p hp];decide)
   obtain ⟨gbS,lbS⟩:=R2.gb hbm (by omega:b.c≠-2)
   have neS:g.ρ p≠g.ι b.a:=fun e=>by have h1:=R2.kr p hp;have h2:=R2.kb b hbm (by omega);rw [e] at h1;omega
   have nhS:g.hi≠g.ι b.a:=fun e=>by have h1:=R2.kc.2.2;have h2:=R2.kb b hbm (by omega);rw [e] at h1;omega
   have ncS:g.c≠g.ι b.a:=fun e=>by have h1:=R2.kc.1;have h2:=R2.kb b hbm (by omega);rw [e] at h1;omega
   have x1S:=ix1 ghS (len:=m.pr) (i:=p) hp
   have grS2:(h2.set (g.ι b.a) (.cells 0 false [.int .i64 (b.a:Int),.int .i64 (b.k:Int),.int .i64 (b.c+1),.int .i64 b.c,.int .u64 (b.u:Int),.bool true])).get (g.ρ p)=.cells 0 false (rowV g m p):=by rw [AHeap.get_set_ne _ _ neS];exact grS
   have x2S:=ix1 grS2 (len:=16) (i:=c) hc
   have rlS:c+1≤(rowV g m p).length:=by rw [row_len];omega
   obtain ⟨IS,RS0⟩:=R2.setW (w:=some p) hbm hbc hc hp (.inr ⟨hbw,rfl,hnone⟩)
   have RS:CellP ((h2.set (g.ι b.a) (.cells 0 false [.int .i64 (b.a:Int),.int .i64 (b.k:Int),.int .i64 (b.c+1),.int .i64 b.c,.int .u64 (b.u:Int),.bool true])).set (g.ρ p) (.cells 0 false ((rowV g m p).take c++[.ptr (g.ι b.a) 0 0]++(rowV g m p).drop (c+1)))) g _ _ _ (m.upd b.a (Blk.setW (some p))) cn wn:=RS0
   have FS:=((F2).set (i:=g.ι b.a) (fun _=>by rw [R2.kb b hbm (by omega)];decide) (.cells 0 false [.int .i64 (b.a:Int),.int .i64 (b.k:Int),.int .i64 (b.c+1),.int .i64 b.c,.int .u64 (b.u:Int),.bool true])).set (i:=g.ρ p) (fun _=>by rw [R2.kr p hp];decide) (.cells 0 false ((rowV g m p).take c++[.ptr (g.ι b.a) 0 0]++(rowV g m p).drop (c+1)))
   simp -implicitDefEqProofs (disch:=first|exact dz _|fail) only [↓AM.R0,AM.R1,AM.R2,reduceAdd,reduceLeDiff,reduceEqDiff,reduceToNat,Nat.reduceLT,↓reduceIte,reduceEq,Int.reduceLT,reduceLE,gcS,ghS,grS,haS,gbS,x1S,x2S,rlS]
   subst hQ
   have hpk:m.pick p c=(some b.a,m.upd b.a (Blk.setW (some p))):=by rw [hfin];unfold Cm.pick2;rw [hsp]
   refine ⟨g,ws,lv,bs,FS,by rw [hpk];exact RS,.inr ⟨Blk.setW (some p) b,by rw [hpk];rfl,by rw [hpk];exact mem_upd.2 (.inl ⟨b,hbm,rfl,rfl⟩),hbc,rfl,hbf,rfl⟩⟩
  | none =>
   simp -implicitDefEqProofs (disch:=first|exact dz _|fail) only [↓AM.R0,AM.R1,AM.R2,reduceAdd,reduceLeDiff,reduceEqDiff,reduceToNat,Nat.reduceLT,↓reduceIte,reduceEq,Int.reduceLT,reduceLE]
   refine AM.callI_of (pagesC hc) ?_
   rintro r h3 ⟨f3,rfl⟩
   have R3:=R2.keep f3
   have F3:=F2.tmp f3
   have T3:=F3.tabR R.K0 T
   have htb:=tabs c hc
   simp -implicitDefEqProofs (disch:=first|exact dz _|fail) only [↓AM.R0,AM.R1,AM.R2,reduceAdd,reduceLeDiff,reduceEqDiff,reduceToNat,Nat.reduceLT,↓reduceIte,reduceEq,Int.reduceLT,reduceLE]
   refine AM.callI_of (blockC T3 R3 (k:=pageT.getD c 0) (c:=(c:Int)) (by omega) (.inr ⟨c,hc,rfl,rfl⟩)) ?_
   rintro r h4 ⟨ws4,lv4,⟨hft,F4,R4,rfl⟩ | ⟨a,i,hft,hfa,F4,R4,hi,rfl⟩⟩
   ·simp -implicitDefEqProofs (disch:=first|exact dz _|fail) only [↓AM.R0,AM.R1,AM.R2,reduceAdd,reduceLeDiff,reduceEqDiff,reduceToNat,Nat.reduceLT,↓reduceIte,reduceEq,Int.reduceLT,reduceLE]
    subst hQ
    have hpk:m.pick p c=(none,m):=by rw [hfin];unfold Cm.pick2;rw [hsp];simp only [hft]
    exact ⟨g,ws4,lv4,bs,F3.trans F4,by rw [hpk];exact R4,.inl ⟨by rw [hpk],rfl⟩⟩
   ·have hbm:(⟨a,pageT.getD c 0,c,0,none⟩:Blk)∈(m.ins ⟨a,pageT.getD c 0,c,0,none⟩).bl:=mem_insB.2 (.inl rfl)
    have hnone4:=held_ins (m:=m) (b:=⟨a,pageT.getD c 0,c,0,none⟩) rfl hnone
    generalize hm4:m.ins ⟨a,pageT.getD c 0,c,0,none⟩=m4 at *
    have hm4p:m4.pr=m.pr:=by rw [←hm4];rfl
    generalize hg4:g.put a i=g4 at *
    have hg4c:g4.c=g.c:=by rw [←hg4];rfl
    obtain ⟨b,hb⟩:∃ b:Blk,b=⟨a,pageT.getD c 0,c,0,none⟩:=⟨_,rfl⟩
    have hba:a=b.a:=by rw [hb]
    have hbc:b.c=(c:Int):=by rw [hb]
    have hbw:b.w=none:=by rw [hb]
    have hbf:b.full=false:=by rw [hb];unfold Blk.full;simp only [pc_zero,Int.toNat_natCast];exact decide_eq_false (by omega)
    rw [←hb] at hbm
    rw [←hi,hba]
    have hp4:p<m4.pr:=by rw [hm4p];exact hp
    have F4c:=F3.trans F4
    rw [←hg4c]
    clear hb
    have gcS:=R4.obj
    have ghS:=R4.hold
    have grS:=R4.row p hp4
    have haS:=hold_at g4 m4 (p:=p) hp4
    have raS:=row_at g4 m4 p hc
    have lcS:g4.c<h4.n:=R4.lt (by rw [R4.kc.1];decide)
    have lhS:g4.hi<h4.n:=R4.lt (by rw [R4.kc.2.2];decide)
    have lrS:g4.ρ p<h4.n:=R4.lt (by rw [R4.kr p hp4];decide)
    obtain ⟨gbS,lbS⟩:=R4.gb hbm (by omega:b.c≠-2)
    have neS:g4.ρ p≠g4.ι b.a:=fun e=>by have h1:=R4.kr p hp4;have h2:=R4.kb b hbm (by omega);rw [e] at h1;omega
    have nhS:g4.hi≠g4.ι b.a:=fun e=>by have h1:=R4.kc.2.2;have h2:=R4.kb b hbm (by omega);rw [e] at h1;omega
    have ncS:g4.c≠g4.ι b.a:=fun e=>by have h1:=R4.kc.1;have h2:=R4.kb b hbm (by omega);rw [e] at h1;omega
    have x1S:=ix1 ghS (len:=m4.pr) (i:=p) hp4
    have grS2:(h4.set (g4.ι b.a) (.cells 0 false [.int .i64 (b.a:Int),.int .i64 (b.k:Int),.int .i64 (b.c+1),.int .i64 b.c,.int .u64 (b.u:Int),.bool true])).get (g4.ρ p)=.cells 0 false (rowV g4 m4 p):=by rw [AHeap.get_set_ne _ _ neS];exact grS
    have x2S:=ix1 grS2 (len:=16) (i:=c) hc
    have rlS:c+1≤(rowV g4 m4 p).length:=by rw [row_len];omega
    obtain ⟨IS,RS0⟩:=R4.setW (w:=some p) hbm hbc hc hp4 (.inr ⟨hbw,rfl,hnone4⟩)
    have RS:CellP ((h4.set (g4.ι b.a) (.cells 0 false [.int .i64 (b.a:Int),.int .i64 (b.k:Int),.int .i64 (b.c+1),.int .i64 b.c,.int .u64 (b.u:Int),.bool true])).set (g4.ρ p) (.cells 0 false ((rowV g4 m4 p).take c++[.ptr (g4.ι b.a) 0 0]++(rowV g4 m4 p).drop (c+1)))) g4 _ _ _ (m4.upd b.a (Blk.setW (some p))) cn wn:=RS0
    have FS:=((F4c).set (i:=g4.ι b.a) (fun hq=>by have q:=R4.kb b hbm (by omega);have:=F4c.K _ hq;omega) (.cells 0 false [.int .i64 (b.a:Int),.int .i64 (b.k:Int),.int .i64 (b.c+1),.int .i64 b.c,.int .u64 (b.u:Int),.bool true])).set (i:=g4.ρ p) (fun hq=>by have q:=R4.kr p hp4;have:=F4c.K _ hq;omega) (.cells 0 false ((rowV g4 m4 p).take c++[.ptr (g4.ι b.a) 0 0]++(rowV g4 m4 p).drop (c+1)))
    simp -implicitDefEqProofs (disch:=first|exact dz _|fail) only [↓AM.R0,AM.R1,AM.R2,reduceAdd,reduceLeDiff,reduceEqDiff,reduceToNat,Nat.reduceLT,↓reduceIte,reduceEq,Int.reduceLT,reduceLE,gcS,ghS,grS,haS,gbS,x1S,x2S,rlS]
    subst hQ
    have hpk:m.pick p c=(some b.a,m4.upd b.a (Blk.setW (some p))):=by rw [hfin];unfold Cm.pick2;rw [hsp];simp only [hft];rw [hm4,hba]
    exact ⟨g4,ws4,lv4,_,FS,by rw [hpk];exact RS,.inr ⟨Blk.setW (some p) b,by rw [hpk];rfl,by rw [hpk];exact mem_upd.2 (.inl ⟨b,hbm,rfl,rfl⟩),hbc,rfl,hbf,rfl⟩⟩
 | some b =>
  obtain ⟨hbm,hbc,hbw⟩:=held_mem hh
  have hnv:hv g.ι m p c=.ptr (g.ι b.a) 0 0:=by unfold hv;rw [hh]
  rw [hnv] at ra
  simp -implicitDefEqProofs (disch:=first|exact dz _|fail) only [↓AM.R0,AM.R1,AM.R2,reduceAdd,reduceLeDiff,reduceEqDiff,reduceToNat,Nat.reduceLT,↓reduceIte,reduceEq,Int.reduceLT,reduceLE,g1,gh,gr,ha,x1,x2,ra]
  refine AM.callI_of (fullB R hbm hc hbc) ?_
  rintro r h1 ⟨f1,rfl⟩
  have R1:=R.keep f1
  have F1:=(CFr.refl h g).tmp f1
  simp -implicitDefEqProofs (disch:=first|exact dz _|fail) only [↓AM.R0,AM.R1,AM.R2,reduceAdd,reduceLeDiff,reduceEqDiff,reduceToNat,Nat.reduceLT,↓reduceIte,reduceEq,Int.reduceLT,reduceLE]
  refine AM.cI_bool (fun hfl=>?_) (fun hfl=>?_)
  ·have hfl:b.full=false:=by simpa using hfl
   simp -implicitDefEqProofs (disch:=first|exact dz _|fail) only [↓AM.R0,AM.R1,AM.R2,reduceAdd,reduceLeDiff,reduceEqDiff,reduceToNat,Nat.reduceLT,↓reduceIte,reduceEq,Int.reduceLT,reduceLE]
   subst hQ
   have hpk:m.pick p c=(some b.a,m):=by unfold Cm.pick;rw [hh];simp only [hfl];rfl
   exact ⟨g,ws,lv,bs,F1,by rw [hpk];exact R1,.inr ⟨b,by rw [hpk],by rw [hpk];exact hbm,hbc,hbw,hfl,rfl⟩⟩
  ·have hfl:b.full=true:=by simpa using hfl
   have hfin:m.pick p c=(m.upd b.a (Blk.setW none)).pick2 p c:=by unfold Cm.pick;rw [hh];simp only [hfl,if_true]
   have gcS:=R1.obj
   have ghS:=R1.hold
   have grS:=R1.row p hp
   have haS:=hold_at g m (p:=p) hp
   have raS:=row_at g m p hc
   have lcS:g.c<h1.n:=R1.lt (by rw [R1.kc.1];decide)
   have lhS:g.hi<h1.n:=R1.lt (by rw [R1.kc.2.2];decide)
   have lrS:g.ρ p<h1.n:=R1.lt (by rw [R1.kr p hp];decide)
   obtain ⟨gbS,lbS⟩:=R1.gb hbm (by omega:b.c≠-2)
   have neS:g.ρ p≠g.ι b.a:=fun e=>by have h1:=R1.kr p hp;have h2:=R1.kb b hbm (by omega);rw [e] at h1;omega
   have nhS:g.hi≠g.ι b.a:=fun e=>by have h1:=R1.kc.2.2;have h2:=R1.kb b hbm (by omega);rw [e] at h1;omega
   have ncS:g.c≠g.ι b.a:=fun e=>by have h1:=R1.kc.1;have h2:=R1.kb b hbm (by omega);rw [e] at h1;omega
   have x1S:=ix1 ghS (len:=m.pr) (i:=p) hp
   have grS2:(h1.set (g.ι b.a) (.cells 0 false [.int .i64 (b.a:Int),.int .i64 (b.k:Int),.int .i64 (b.c+1),.int .i64 b.c,.int .u64 (b.u:Int),.bool false])).get (g.ρ p)=.cells 0 false (rowV g m p):=by rw [AHeap.get_set_ne _ _ neS];exact grS
   have x2S:=ix1 grS2 (len:=16) (i:=c) hc
   have rlS:c+1≤(rowV g m p).length:=by rw [row_len];omega
   obtain ⟨IS,RS0⟩:=R1.setW (w:=none) hbm hbc hc hp (.inl ⟨hbw,rfl⟩)
   have RS:CellP ((h1.set (g.ι b.a) (.cells 0 false [.int .i64 (b.a:Int),.int .i64 (b.k:Int),.int .i64 (b.c+1),.int .i64 b.c,.int .u64 (b.u:Int),.bool false])).set (g.ρ p) (.cells 0 false ((rowV g m p).take c++[.nilp]++(rowV g m p).drop (c+1)))) g _ _ _ (m.upd b.a (Blk.setW (none))) cn wn:=RS0
   have FS:=((F1).set (i:=g.ι b.a) (fun _=>by rw [R1.kb b hbm (by omega)];decide) (.cells 0 false [.int .i64 (b.a:Int),.int .i64 (b.k:Int),.int .i64 (b.c+1),.int .i64 b.c,.int .u64 (b.u:Int),.bool false])).set (i:=g.ρ p) (fun _=>by rw [R.kr p hp];decide) (.cells 0 false ((rowV g m p).take c++[.nilp]++(rowV g m p).drop (c+1)))
   simp -implicitDefEqProofs (disch:=first|exact dz _|fail) only [↓AM.R0,AM.R1,AM.R2,reduceAdd,reduceLeDiff,reduceEqDiff,reduceToNat,Nat.reduceLT,↓reduceIte,reduceEq,Int.reduceLT,reduceLE,gcS,ghS,grS,haS,gbS,x1S,x2S,rlS]
   clear RS0
   generalize ((h1.set (g.ι b.a) _).set (g.ρ p) _)=h1' at *
   have hnone:=held_upd_none R.I hh
   have hpm:p<(m.upd b.a (Blk.setW none)).pr:=hp
   have hprm:(m.upd b.a (Blk.setW none)).pr=m.pr:=rfl
   clear gcS ghS grS haS raS lcS lhS lrS gbS lbS neS nhS ncS x1S grS2 x2S rlS hbm hbc hbw
   generalize m.upd b.a (Blk.setW none)=m1 at *
   clear hnv ra IS
   refine AM.callI_of (spareC RS hc) ?_
   rintro r h2 ⟨f2,rfl⟩
   have R2:=RS.keep f2
   have F2:=(FS).tmp f2
   cases hsp:m1.spare c with
   | some b =>
    obtain ⟨hbm,hbc,hbw,hbf⟩:=spare_mem hsp
    simp -implicitDefEqProofs (disch:=first|exact dz _|fail) only [↓AM.R0,AM.R1,AM.R2,reduceAdd,reduceLeDiff,reduceEqDiff,reduceToNat,Nat.reduceLT,↓reduceIte,reduceEq,Int.reduceLT,reduceLE]
    have gcS:=R2.obj
    have ghS:=R2.hold
    have grS:=R2.row p hpm
    have haS:=hold_at g m1 (p:=p) hpm
    have raS:=row_at g m1 p hc
    have lcS:g.c<h2.n:=R2.lt (by rw [R2.kc.1];decide)
    have lhS:g.hi<h2.n:=R2.lt (by rw [R2.kc.2.2];decide)
    have lrS:g.ρ p<h2.n:=R2.lt (by rw [R2.kr p hpm];decide)
    obtain ⟨gbS,lbS⟩:=R2.gb hbm (by omega:b.c≠-2)
    have neS:g.ρ p≠g.ι b.a:=fun e=>by have h1:=R2.kr p hpm;have h2:=R2.kb b hbm (by omega);rw [e] at h1;omega
    have nhS:g.hi≠g.ι b.a:=fun e=>by have h1:=R2.kc.2.2;have h2:=R2.kb b hbm (by omega);rw [e] at h1;omega
    have ncS:g.c≠g.ι b.a:=fun e=>by have h1:=R2.kc.1;have h2:=R2.kb b hbm (by omega);rw [e] at h1;omega
    have x1S:=ix1 ghS (len:=m1.pr) (i:=p) hpm
    have grS2:(h2.set (g.ι b.a) (.cells 0 false [.int .i64 (b.a:Int),.int .i64 (b.k:Int),.int .i64 (b.c+1),.int .i64 b.c,.int .u64 (b.u:Int),.bool true])).get (g.ρ p)=.cells 0 false (rowV g m1 p):=by rw [AHeap.get_set_ne _ _ neS];exact grS
    have x2S:=ix1 grS2 (len:=16) (i:=c) hc
    have rlS:c+1≤(rowV g m1 p).length:=by rw [row_len];omega
    obtain ⟨IS,RS0⟩:=R2.setW (w:=some p) hbm hbc hc hpm (.inr ⟨hbw,rfl,hnone⟩)
    have RS:CellP ((h2.set (g.ι b.a) (.cells 0 false [.int .i64 (b.a:Int),.int .i64 (b.k:Int),.int .i64 (b.c+1),.int .i64 b.c,.int .u64 (b.u:Int),.bool true])).set (g.ρ p) (.cells 0 false ((rowV g m1 p).take c++[.ptr (g.ι b.a) 0 0]++(rowV g m1 p).drop (c+1)))) g _ _ _ (m1.upd b.a (Blk.setW (some p))) cn wn:=RS0
    have FS:=((F2).set (i:=g.ι b.a) (fun _=>by rw [R2.kb b hbm (by omega)];decide) (.cells 0 false [.int .i64 (b.a:Int),.int .i64 (b.k:Int),.int .i64 (b.c+1),.int .i64 b.c,.int .u64 (b.u:Int),.bool true])).set (i:=g.ρ p) (fun _=>by rw [R2.kr p hpm];decide) (.cells 0 false ((rowV g m1 p).take c++[.ptr (g.ι b.a) 0 0]++(rowV g m1 p).drop (c+1)))
    simp -implicitDefEqProofs (disch:=first|exact dz _|fail) only [↓AM.R0,AM.R1,AM.R2,reduceAdd,reduceLeDiff,reduceEqDiff,reduceToNat,Nat.reduceLT,↓reduceIte,reduceEq,Int.reduceLT,reduceLE,gcS,ghS,grS,haS,gbS,x1S,x2S,rlS]
    subst hQ
    have hpk:m.pick p c=(some b.a,m1.upd b.a (Blk.setW (some p))):=by rw [hfin];unfold Cm.pick2;rw [hsp]
    refine ⟨g,ws,lv,bs,FS,by rw [hpk];exact RS,.inr ⟨Blk.setW (some p) b,by rw [hpk];rfl,by rw [hpk];exact mem_upd.2 (.inl ⟨b,hbm,rfl,rfl⟩),hbc,rfl,hbf,rfl⟩⟩
   | none =>
    simp -implicitDefEqProofs (disch:=first|exact dz _|fail) only [↓AM.R0,AM.R1,AM.R2,reduceAdd,reduceLeDiff,reduceEqDiff,reduceToNat,Nat.reduceLT,↓reduceIte,reduceEq,Int.reduceLT,reduceLE]
    refine AM.callI_of (pagesC hc) ?_
    rintro r h3 ⟨f3,rfl⟩
    have R3:=R2.keep f3
    have F3:=F2.tmp f3
    have T3:=F3.tabR R.K0 T
    have htb:=tabs c hc
    simp -implicitDefEqProofs (disch:=first|exact dz _|fail) only [↓AM.R0,AM.R1,AM.R2,reduceAdd,reduceLeDiff,reduceEqDiff,reduceToNat,Nat.reduceLT,↓reduceIte,reduceEq,Int.reduceLT,reduceLE]
    refine AM.callI_of (blockC T3 R3 (k:=pageT.getD c 0) (c:=(c:Int)) (by omega) (.inr ⟨c,hc,rfl,rfl⟩)) ?_
    rintro r h4 ⟨ws4,lv4,⟨hft,F4,R4,rfl⟩ | ⟨a,i,hft,hfa,F4,R4,hi,rfl⟩⟩
    ·simp -implicitDefEqProofs (disch:=first|exact dz _|fail) only [↓AM.R0,AM.R1,AM.R2,reduceAdd,reduceLeDiff,reduceEqDiff,reduceToNat,Nat.reduceLT,↓reduceIte,reduceEq,Int.reduceLT,reduceLE]
     subst hQ
     have hpk:m.pick p c=(none,m1):=by rw [hfin];unfold Cm.pick2;rw [hsp];simp only [hft]
     exact ⟨g,ws4,lv4,bs,F3.trans F4,by rw [hpk];exact R4,.inl ⟨by rw [hpk],rfl⟩⟩
    ·have hbm:(⟨a,pageT.getD c 0,c,0,none⟩:Blk)∈(m1.ins ⟨a,pageT.getD c 0,c,0,none⟩).bl:=mem_insB.2 (.inl rfl)
     have hnone4:=held_ins (m:=m1) (b:=⟨a,pageT.getD c 0,c,0,none⟩) rfl hnone
     generalize hm4:m1.ins ⟨a,pageT.getD c 0,c,0,none⟩=m4 at *
     have hm4p:m4.pr=m.pr:=by rw [←hm4];exact hprm
     generalize hg4:g.put a i=g4 at *
     have hg4c:g4.c=g.c:=by rw [←hg4];rfl
     obtain ⟨b,hb⟩:∃ b:Blk,b=⟨a,pageT.getD c 0,c,0,none⟩:=⟨_,rfl⟩
     have hba:a=b.a:=by rw [hb]
     have hbc:b.c=(c:Int):=by rw [hb]
     have hbw:b.w=none:=by rw [hb]
     have hbf:b.full=false:=by rw [hb];unfold Blk.full;simp only [pc_zero,Int.toNat_natCast];exact decide_eq_false (by omega)
     rw [←hb] at hbm
     rw [←hi,hba]
     have hp4:p<m4.pr:=by rw [hm4p];exact hp
     have F4c:=F3.trans F4
     rw [←hg4c]
     clear hb
     have gcS:=R4.obj
     have ghS:=R4.hold
     have grS:=R4.row p hp4
     have haS:=hold_at g4 m4 (p:=p) hp4
     have raS:=row_at g4 m4 p hc
     have lcS:g4.c<h4.n:=R4.lt (by rw [R4.kc.1];decide)
     have lhS:g4.hi<h4.n:=R4.lt (by rw [R4.kc.2.2];decide)
     have lrS:g4.ρ p<h4.n:=R4.lt (by rw [R4.kr p hp4];decide)
     obtain ⟨gbS,lbS⟩:=R4.gb hbm (by omega:b.c≠-2)
     have neS:g4.ρ p≠g4.ι b.a:=fun e=>by have h1:=R4.kr p hp4;have h2:=R4.kb b hbm (by omega);rw [e] at h1;omega
     have nhS:g4.hi≠g4.ι b.a:=fun e=>by have h1:=R4.kc.2.2;have h2:=R4.kb b hbm (by omega);rw [e] at h1;omega
     have ncS:g4.c≠g4.ι b.a:=fun e=>by have h1:=R4.kc.1;have h2:=R4.kb b hbm (by omega);rw [e] at h1;omega
     have x1S:=ix1 ghS (len:=m4.pr) (i:=p) hp4
     have grS2:(h4.set (g4.ι b.a) (.cells 0 false [.int .i64 (b.a:Int),.int .i64 (b.k:Int),.int .i64 (b.c+1),.int .i64 b.c,.int .u64 (b.u:Int),.bool true])).get (g4.ρ p)=.cells 0 false (rowV g4 m4 p):=by rw [AHeap.get_set_ne _ _ neS];exact grS
     have x2S:=ix1 grS2 (len:=16) (i:=c) hc
     have rlS:c+1≤(rowV g4 m4 p).length:=by rw [row_len];omega
     obtain ⟨IS,RS0⟩:=R4.setW (w:=some p) hbm hbc hc hp4 (.inr ⟨hbw,rfl,hnone4⟩)
     have RS:CellP ((h4.set (g4.ι b.a) (.cells 0 false [.int .i64 (b.a:Int),.int .i64 (b.k:Int),.int .i64 (b.c+1),.int .i64 b.c,.int .u64 (b.u:Int),.bool true])).set (g4.ρ p) (.cells 0 false ((rowV g4 m4 p).take c++[.ptr (g4.ι b.a) 0 0]++(rowV g4 m4 p).drop (c+1)))) g4 _ _ _ (m4.upd b.a (Blk.setW (some p))) cn wn:=RS0
     have FS:=((F4c).set (i:=g4.ι b.a) (fun hq=>by have q:=R4.kb b hbm (by omega);have:=F4c.K _ hq;omega) (.cells 0 false [.int .i64 (b.a:Int),.int .i64 (b.k:Int),.int .i64 (b.c+1),.int .i64 b.c,.int .u64 (b.u:Int),.bool true])).set (i:=g4.ρ p) (fun hq=>by have q:=R4.kr p hp4;have:=F4c.K _ hq;omega) (.cells 0 false ((rowV g4 m4 p).take c++[.ptr (g4.ι b.a) 0 0]++(rowV g4 m4 p).drop (c+1)))
     simp -implicitDefEqProofs (disch:=first|exact dz _|fail) only [↓AM.R0,AM.R1,AM.R2,reduceAdd,reduceLeDiff,reduceEqDiff,reduceToNat,Nat.reduceLT,↓reduceIte,reduceEq,Int.reduceLT,reduceLE,gcS,ghS,grS,haS,gbS,x1S,x2S,rlS]
     subst hQ
     have hpk:m.pick p c=(some b.a,m4.upd b.a (Blk.setW (some p))):=by rw [hfin];unfold Cm.pick2;rw [hsp];simp only [hft];rw [hm4,hba]
     exact ⟨g4,ws4,lv4,_,FS,by rw [hpk];exact RS,.inr ⟨Blk.setW (some p) b,by rw [hpk];rfl,by rw [hpk];exact mem_upd.2 (.inl ⟨b,hbm,rfl,rfl⟩),hbc,rfl,hbf,rfl⟩⟩
end Go.Proofs.YthillgheddpmhaaDoor.Pg