/-
 What the functions of this seat do,on the machine: lemmas for the laws.
-/
import Derived.Test.YthillgheddpmhaaDoorMX5
import Derived.Test.YthillgheddpmhaaDoorMX9
set_option linter.unusedSimpArgs false
set_option linter.unusedVariables false
set_option maxRecDepth 100000
attribute [local irreducible] Go.AM.wp Go.AM.wpIs Go.AM.wpTr Go.AM.opI Go.AM.gI Go.AM.cI Go.AM.trI Go.AM.callI Go.AM.fnI Go.AM.yldI Go.AM.rangeI Go.AM.rangeC Go.AM.YldP Go.AM.asgQ Go.AM.roundQ Go.AM.rangeQ Go.AM.trG Go.AM.trOp Go.AM.trCall Go.AM.seqC Go.AM.loopI
namespace Go.Proofs.YthillgheddpmhaaDoor.Pg
open Go Go.AM Go.Proofs.YthillgheddpmhaaDoor.AmGJ
open Nat (reduceAdd reduceLeDiff reduceEqDiff)
open Int (reduceToNat reduceEq reduceLE)
attribute [local irreducible] pc
theorem flat_setC {α:Type} {enc:α→List AVal} {n:Nat} (hE:∀ a,(enc a).length=n) {c:Nat} {x:AVal} (hc:c<n) {a a':α} (ha:enc a'=(enc a).set c x):∀ {l:List α} {j:Nat},l[j]?=some a→(l.flatMap enc).set (j*n+c) x=(l.set j a').flatMap enc
 | [],j,h=>by simp at h
 | b::l,0,h=>by
  simp at h;subst h
  rw [List.flatMap_cons,List.set_cons_zero,List.flatMap_cons,Nat.zero_mul,Nat.zero_add,List.set_append_left _ _ (by rw [hE];exact hc),ha]
 | b::l,j+1,h=>by
  have ih:=flat_setC hE hc ha (l:=l) (j:=j) (by simpa using h)
  rw [List.flatMap_cons,List.set_cons_succ,List.flatMap_cons,←ih,List.set_append_right _ _ (by rw [hE,Nat.add_mul];omega),hE]
  congr 2
  rw [Nat.add_mul];omega
theorem SlOf.updC {α:Type} {enc:α→List AVal} {n:Nat} {h:AHeap} {v:AVal} {l:List α} {G:List Nat} (s:SlOf h n enc v l G) (hE:∀ a,(enc a).length=n) {j:Nat} {a a':α} (hj:l[j]?=some a) {c:Nat} (hc:c<n) {x:AVal} (ha:enc a'=(enc a).set c x) :
  ∃ id g off vs,v=.sl id g off l.length n∧h.get id=.cells g false vs∧id<h.n∧off+j*n+c+1≤vs.length∧G=[id]∧ixV h n v (.int .i64 (j:Int))=some (.ptr id g (off+j*n),h)∧(vs.drop (off+j*n)).take n=enc a∧off+j*n+n≤vs.length ∧
   SlOf (h.set id (.cells g false (vs.take (off+j*n+c)++[x]++vs.drop (off+j*n+c+1)))) n enc v (l.set j a') G:=by
 have hjl:=(List.getElem?_eq_some_iff.1 hj).1
 rcases s with ⟨_,e,_⟩ | ⟨id,g,off,vs,e1,e2,e3,e4,e5,e6⟩
 ·subst e;simp at hjl
 ·have h1:=mul_lt_len (esz:=n) hjl
  have hfl:=AM.flat_len (l:=l) hE
  have hat:(vs.drop (off+j*n)).take n=enc a:=by
   rw [←List.drop_drop,e5,AM.flat_drop hE]
   have:l.drop j=a::l.drop (j+1):=by
    rw [List.drop_eq_getElem_cons hjl];congr 1
    exact (List.getElem?_eq_some_iff.1 hj).2
   rw [this,List.flatMap_cons,List.take_append_of_le_length (by rw [hE];omega),List.take_of_length_le (by rw [hE];omega)]
  refine ⟨id,g,off,vs,e1,e2,e3,by omega,e6,?_,hat,by omega,.inr ⟨id,g,off,_,by rw [List.length_set];exact e1,AHeap.get_set_same _ _ _,e3,?_,?_,e6⟩⟩
  ·rw [e1]
   have:=AM.ix_sl (h:=h) (k:=.i64) (n:=(j:Int)) (len:=l.length) (esz:=n) (off:=off) e2 (by omega) (by omega)
   simpa using this
  ·rw [List.length_set];simp only [List.length_append,List.length_take,List.length_drop,List.length_cons,List.length_nil];omega
  ·have e7:vs.take (off+j*n+c)++[x]++vs.drop (off+j*n+c+1)=vs.set (off+j*n+c) x:=by
    rw [List.set_eq_take_append_cons_drop,if_pos (by omega),List.append_assoc];rfl
   rw [e7,List.drop_set,if_neg (by omega),e5,show off+j*n+c-off=j*n+c by omega,flat_setC hE hc ha hj]
structure RFr (h h':AHeap) (g g':RI):Prop where
 n:h.n≤h'.n
 G:h'.g=h.g
 get:∀ j,j<h.n→g.K j=0→h'.get j=h.get j
 K:∀ j,j<h.n→g'.K j=g.K j
 c:g'.c=g.c
theorem RFr.refl (h:AHeap) (g:RI):RFr h h g g:=⟨Nat.le_refl _,rfl,fun _ _ _=>rfl,fun _ _=>rfl,rfl⟩
variable {h h':AHeap} {g g':RI} {rb:List (Blk×Nat)} {m:Cm}
theorem RFr.trans {h1:AHeap} {g1:RI} (a:RFr h h1 g g1) (b:RFr h1 h' g1 g'):RFr h h' g g' :=
 ⟨Nat.le_trans a.n b.n,b.G.trans a.G,fun j hj k=>(b.get j (Nat.lt_of_lt_of_le hj a.n) ((a.K j hj).trans k)).trans (a.get j hj k),fun j hj=>(b.K j (Nat.lt_of_lt_of_le hj a.n)).trans (a.K j hj),b.c.trans a.c⟩
theorem RFr.left {h1:AHeap} (a:RFr h h1 g g') {A A':List Nat} (F:HFrame h1 h' A A') (d:∀ j,j∈A→j<h.n→g.K j≠0):RFr h h' g g' :=
 ⟨Nat.le_trans a.n F.n,F.g.trans a.G,fun j hj k=>(F.get j (Nat.lt_of_lt_of_le hj a.n) fun hm=>d j hm hj k).trans (a.get j hj k),a.K,a.c⟩
theorem RFr.tmp {h1:AHeap} (a:RFr h h1 g g') {A':List Nat} (F:HFrame h1 h' [] A'):RFr h h' g g':=a.left F (by simp)
theorem RFr.set {h1:AHeap} (a:RFr h h1 g g') {i:Nat} (d:i<h.n→g.K i≠0) (o:AObj):RFr h (h1.set i o) g g' :=
 ⟨a.n,a.G,fun j hj k=>by
  rw [AHeap.get_set_ne]
  ·exact a.get j hj k
  ·rintro rfl;exact d hj k,a.K,a.c⟩
theorem prw_rb (R:RC h g rb m):rb.Pairwise fun p q=>p.1.a≠q.1.a:=by
 have h1:(rb.map (·.1)).Pairwise fun s t=>s.a≠t.a:=(R.pm.pairwise_iff (fun {x y} hxy=>Ne.symm hxy)).2 R.I.prw
 rw [List.pairwise_map] at h1
 exact h1
theorem rb_same (R:RC h g rb m) {i j:Nat} {p q:Blk×Nat} (hi:rb[i]?=some p) (hj:rb[j]?=some q) (e:p.1.a=q.1.a):i=j:=by
 have hp:=prw_rb R
 obtain ⟨hil,hie⟩:=List.getElem?_eq_some_iff.1 hi
 obtain ⟨hjl,hje⟩:=List.getElem?_eq_some_iff.1 hj
 rw [List.pairwise_iff_getElem] at hp
 rcases Nat.lt_trichotomy i j with z | z | z
 ·have:=hp i j hil hjl z
  rw [hie,hje] at this;exact absurd e this
 ·exact z
 ·have:=hp j i hjl hil z
  rw [hie,hje] at this;exact absurd e.symm this
theorem id_same (R:RC h g rb m) {i j:Nat} {p q:Blk×Nat} (hi:rb[i]?=some p) (hj:rb[j]?=some q) (e:p.2=q.2):i=j:=by
 have hp:=R.nd
 obtain ⟨hil,hie⟩:=List.getElem?_eq_some_iff.1 hi
 obtain ⟨hjl,hje⟩:=List.getElem?_eq_some_iff.1 hj
 unfold List.Nodup at hp
 rw [List.pairwise_map,List.pairwise_iff_getElem] at hp
 rcases Nat.lt_trichotomy i j with z | z | z
 ·have:=hp i j hil hjl z
  rw [hie,hje] at this;exact absurd e this
 ·exact z
 ·have:=hp j i hjl hil z
  rw [hie,hje] at this;exact absurd e.symm this
theorem RC.upd (R:RC h g rb m) {i:Nat} {p:Blk×Nat} (hi:rb[i]?=some p) {f:Blk→Blk} (hf:∀ b,(f b).a=b.a∧(f b).k=b.k) (I':CInv (m.upd p.1.a f)) {A A':List Nat} (F:HFrame h h' A A') (hA:∀ j,j∈A→g.K j=2∨j=p.2)
  (so':SlOf h' 5 encRB g.v (rb.set i (f p.1,p.2)) g.G) (us':h'.get p.2=.cells 0 false (boolsV (f p.1).nc (f p.1).u)) (hAu:∀ q,q∈rb→q.2≠p.2→q.2 ∉ A):RC h' g (rb.set i (f p.1,p.2)) (m.upd p.1.a f):=by
 have hpm:=List.mem_of_getElem? hi
 have hil:=(List.getElem?_eq_some_iff.1 hi).1
 have kp:=R.ku p hpm
 have G:∀ j,g.K j≠0→g.K j≠2→g.K j≠3→h'.get j=h.get j:=fun j q1 q2 q3=>F.get j (R.k0 j q1) fun hm=>by
  rcases hA j hm with z | z
  ·exact q2 z
  ·rw [z] at q3;exact q3 kp
 have hfst:(rb.set i (f p.1,p.2)).map (·.1)=(rb.map (·.1)).map fun b=>if b.a=p.1.a then f b else b:=by
  apply List.ext_getElem?
  intro j
  rw [List.map_set,List.map_map,List.getElem?_set,List.getElem?_map,List.getElem?_map]
  by_cases e:i=j
  ·subst e
   rw [if_pos rfl,if_pos (by rw [List.length_map];exact hil),hi]
   simp
  ·rw [if_neg e]
   cases hj:rb[j]? with
   | none=>rfl
   | some q =>
    have:q.1.a≠p.1.a:=fun e2=>e (rb_same R hi hj e2.symm)
    simp [this]
 have hL0:(m.upd p.1.a f).L0=m.L0:=by
  unfold Cm.L0 Cm.upd
  simp only [List.map_map]
  refine List.map_congr_left fun b hb=>?_
  simp only [Function.comp]
  split
  ·rw [(hf b).1,(hf b).2]
  ·rfl
 have hff:(m.upd p.1.a f).f=m.f:=upd_f hf
 refine ⟨I',?_,(G _ (by rw [R.kc];decide) (by rw [R.kc];decide) (by rw [R.kc];decide)).trans R.obj,so',fun q hq=>?_,?_,?_,fun j k=>Nat.lt_of_lt_of_le (R.k0 j k) F.n,R.kc,R.kG,fun q hq=>?_,R.kt⟩
 ·rw [hL0,hff]
  exact R.T.keepD F fun j hj hm=>by
   have k4:=R.kt j hj
   rcases hA j hm with z | z
   ·omega
   ·rw [z] at k4;omega
 ·obtain ⟨j,hj⟩:=List.getElem?_of_mem hq
  by_cases e:i=j
  ·subst e
   rw [List.getElem?_set_self hil] at hj
   cases hj;exact us'
  ·rw [List.getElem?_set_ne e] at hj
   have hqm:=List.mem_of_getElem? hj
   have hne:q.2≠p.2:=fun e2=>e (id_same R hi hj e2.symm)
   rw [F.get q.2 (R.k0 _ (by rw [R.ku q hqm];decide)) (hAu q hqm hne)]
   exact R.us q hqm
 ·rw [hfst];exact R.pm.map _
 ·have:(rb.set i (f p.1,p.2)).map (·.2)=rb.map (·.2):=by
   rw [List.map_set]
   apply List.ext_getElem?
   intro j
   rw [List.getElem?_set]
   by_cases e:i=j
   ·subst e;rw [if_pos rfl,if_pos (by rw [List.length_map];exact hil),List.getElem?_map,hi];rfl
   ·rw [if_neg e]
  rw [this];exact R.nd
 ·obtain ⟨j,hj⟩:=List.getElem?_of_mem hq
  by_cases e:i=j
  ·subst e
   rw [List.getElem?_set_self hil] at hj
   cases hj;exact kp
  ·rw [List.getElem?_set_ne e] at hj
   exact R.ku q (List.mem_of_getElem? hj)
def RI.put (g:RI) (vt:AVal) (Gt:List Nat) (v:AVal) (G ex:List Nat) (n:Nat):RI:={ g with vt:=vt,Gt:=Gt,v:=v,G:=G,K:=fun j=>if j<n then g.K j else if j∈ex then 3 else if j∈Gt then 4 else if j∈G then 2 else 0 }
theorem RC.mk2 (R:RC h g rb m) {m':Cm} {rb':List (Blk×Nat)} {vt v:AVal} {Gt G ex:List Nat} (N:h.n≤h'.n) (hG:h'.g=h.g) (G0:∀ j,j<h.n→g.K j=0→h'.get j=h.get j) (I':CInv m') (hp:m'.pr=m.pr)
  (T':RTab h' g.u g.r g.b m'.n m'.f m'.L0 vt Gt) (obj':h'.get g.c=.cells 0 false [.ptr g.u 0 0,v,.int .i64 m'.pr]) (so':SlOf h' 5 encRB v rb' G)
  (us':∀ p,p∈rb'→h'.get p.2=.cells 0 false (boolsV p.1.nc p.1.u)∧((p.2<h.n∧g.K p.2=3)∨(h.n≤p.2∧p.2∈ex))) (pm':(rb'.map (·.1)).Perm m'.bl) (nd':(rb'.map (·.2)).Nodup)
  (hGt:∀ j,j∈Gt→j∈[g.u,g.r,g.b]++g.Gt∨(h.n≤j∧j ∉ ex)) (hGG:∀ j,j∈G→g.K j=2∨(h.n≤j∧j ∉ ex∧j ∉ Gt)) (hex:∀ j,j∈ex→j<h'.n):RFr h h' g (g.put vt Gt v G ex h.n)∧RC h' (g.put vt Gt v G ex h.n) rb' m':=by
 have Ko:∀ j,g.K j≠0→(g.put vt Gt v G ex h.n).K j=g.K j:=fun j q=>if_pos (R.k0 j q)
 have Kn:∀ j,h.n≤j→(g.put vt Gt v G ex h.n).K j=if j∈ex then 3 else if j∈Gt then 4 else if j∈G then 2 else 0:=fun j hj=>if_neg (by omega)
 refine ⟨⟨N,hG,G0,fun j hj=>if_pos hj,rfl⟩,⟨I',T',obj',so',fun p hp=>(us' p hp).1,pm',nd',fun j q=>?_,?_,fun j hj=>?_,fun p hp=>?_,fun j hj=>?_⟩⟩
 ·rcases Nat.lt_or_ge j h.n with c1 | c1
  ·omega
  ·rw [Kn j c1] at q
   split at q
   ·rename_i c2;exact hex j c2
   ·split at q
    ·rename_i c2;exact T'.flt j (List.mem_append_right _ c2)
    ·split at q
     ·rename_i c2;exact so'.lt j c2
     ·exact absurd rfl q
 ·have:=Ko g.c (by rw [R.kc];decide)
  exact this.trans R.kc
 ·rcases hGG j hj with z | ⟨z1,z2,z3⟩
  ·rw [Ko j (by rw [z];decide)];exact z
  ·have hj':j∈G:=hj
   rw [Kn j z1,if_neg z2,if_neg z3,if_pos hj']
 ·rcases (us' p hp).2 with ⟨z1,z2⟩ | ⟨z1,z2⟩
  ·rw [Ko p.2 (by rw [z2];decide)];exact z2
  ·rw [Kn p.2 z1,if_pos z2]
 ·have old:∀ j,j∈[g.u,g.r,g.b]++g.Gt→(g.put vt Gt v G ex h.n).K j=4:=fun j z=>by rw [Ko j (by rw [R.kt j z];decide)];exact R.kt j z
  have hj':j∈[g.u,g.r,g.b]++Gt:=hj
  rcases List.mem_append.1 hj' with z | z
  ·exact old j (List.mem_append_left _ z)
  ·rcases hGt j z with y | ⟨y1,y2⟩
   ·exact old j y
   ·rw [Kn j y1,if_neg y2,if_pos z]
theorem msB (h:AHeap) (k:Nat) (hk:k≤64):msV h 1 1 [.bool false] (.int .i64 (k:Int))=some (.sl h.n 0 0 k 1,h.push (.cells 0 false (boolsV k 0))):=by
 unfold msV
 simp only [Int.toNat_natCast,Int.natCast_nonneg,true_and]
 rw [if_pos (by omega)]
 congr 3
 unfold boolsV
 rw [Nat.mul_one]
 congr 1
 refine List.map_congr_left fun i _=>?_
 simp [Nat.mod_one]
theorem L0_ins (m:Cm) (b:Blk):(m.ins b).L0=insF m.L0 ⟨b.a,b.k,0⟩:=by
 unfold Cm.L0 Cm.ins
 show (insB m.bl b).map _=_
 generalize m.bl=l
 induction l with
 | nil=>rfl
 | cons t l ih =>
  rw [insB,List.map_cons,insF]
  show _=if b.a<t.a then _ else _
  split
  ·rfl
  ·rw [List.map_cons,ih]
theorem ins_perm (b:Blk):∀ l:List Blk,(insB l b).Perm (b::l)
 | []=>List.Perm.refl _
 | t::l=>by
  rw [insB]
  split
  ·exact List.Perm.refl _
  ·exact (List.Perm.cons t (ins_perm b l)).trans (List.Perm.swap b t l)
theorem ins_f (m:Cm) (b:Blk) (hlt:b.a+b.k≤m.n):(m.ins b).f=fun q=>if b.a≤q∧q<b.a+b.k then false else m.f q:=by
 funext q
 rcases Nat.lt_or_ge q m.n with hq | hq
 ·have h1:=f_false (m.ins b) (q:=q) hq
  have h2:=f_false m hq
  by_cases c:b.a≤q∧q<b.a+b.k
  ·rw [if_pos c]
   exact h1.2 ⟨b,mem_insB.2 (.inl rfl),c⟩
  ·rw [if_neg c]
   have:(m.ins b).f q=false↔m.f q=false:=by
    rw [h1,h2]
    constructor
    ·rintro ⟨x,hx,h⟩
     rcases mem_insB.1 hx with rfl | e
     ·exact absurd h c
     ·exact ⟨x,e,h⟩
    ·rintro ⟨x,hx,h⟩;exact ⟨x,mem_insB.2 (.inr hx),h⟩
   cases e1:(m.ins b).f q<;>cases e2:m.f q<;>simp [e1,e2] at this<;>rfl
 ·rw [f_out (m.ins b) hq,f_out m hq];split<;>rfl
theorem first_lt {m:Cm} {k a:Nat} (hk:1≤k) (hf:FirstAt m.f k a):a+k≤m.n:=by
 rcases Nat.lt_or_ge m.n (a+k) with q | q
 ·have h1:=hf.1 (k-1) (by omega)
  rw [f_out m (by omega)] at h1;cases h1
 ·exact q
set_option maxHeartbeats 16000000 in
theorem rMake (R:RC h g rb m) (k cls:Int) (wd nc:Nat) (hcl:-2≤cls∧cls<16) (hnc:nc≤64) (hrw:wd≤1000000000)
  (hB:∀ a:Nat,1≤k→FirstAt m.f k.toNat a→CInv (m.ins ⟨a,k.toNat,cls,0,none⟩)∧(⟨a,k.toNat,cls,0,none⟩:Blk).nc=nc∧(⟨a,k.toNat,cls,0,none⟩:Blk).rws=wd):CallP AP 92 [.ptr g.c 0 0,.int .i64 k,.int .i64 cls,.int .i64 (wd:Nat),.int .i64 (nc:Nat)] h fun r h'=>∃ g',RFr h h' g g' ∧
  ((k<1∧RC h' g' rb m∧r=res2 0 1)∨(1≤k∧m.fit k.toNat=none∧RC h' g' rb m∧r=res2 0 3)∨(∃ a,1≤k∧m.fit k.toNat=some a∧FirstAt m.f k.toNat a∧∃ i,RC h' g' (rb++[(⟨a,k.toNat,cls,0,none⟩,i)]) (m.ins ⟨a,k.toNat,cls,0,none⟩)∧r=res2 (rb.length:Nat) 0)):=by
 refine callP (rfl:Tr.get AP 92=some A92) ?_
 generalize hQ:(fun (r:AVal) (h':AHeap)=>_)=Q
 have g1:=R.obj
 have lc:g.c<h.n:=R.k0 _ (by rw [R.kc];decide)
 have hlen:=R.len
 have hn2:=R.n2
 have hTF:∀ j,j∈[g.u,g.r,g.b]++g.Gt→g.K j≠0:=fun j hj=>by rw [R.kt j hj];decide
 simp -implicitDefEqProofs (disch:=first|exact dz _|fail) only [↓AM.R0,AM.R1,AM.R2,reduceAdd,reduceLeDiff,reduceEqDiff,reduceToNat,Nat.reduceLT,↓reduceIte,reduceEq,Int.reduceLT,reduceLE,g1]
 refine AM.callI_of (rsAlloc R.T k 0) ?_
 rintro r h2 ⟨f',L',vt',Gt',f2,T2,w,A1,A2⟩
 have hn:=f2.n
 have hnewT:∀ j,j∈Gt'→j∈[g.u,g.r,g.b]++g.Gt∨h.n≤j:=fun j hj=>f2.new j (List.mem_append_right _ hj)
 have G2:∀ j,g.K j≠0→g.K j≠4→h2.get j=h.get j:=fun j q1 q2=>f2.get j (R.k0 j q1) fun hm=>q2 (R.kt j hm)
 have gc2:=(G2 g.c (by rw [R.kc];decide) (by rw [R.kc];decide)).trans g1
 have lc2:g.c<h2.n:=by omega
 have ft:∀ o,HFrame h2 ((h2.push (.cells 0 false [.int .i64 0,.int .i64 0,.int .i64 0])).set h2.n o) [] []:=fun o=>((HFrame.refl (h:=h2) (F:=[]) (by simp)).pushTmp (.cells 0 false [.int .i64 0,.int .i64 0,.int .i64 0])).setTmp (i:=h2.n) (Nat.le_refl _) o
 have so2:=R.so.frame hn fun j hj=>G2 j (by rw [R.kG j hj];decide) (by rw [R.kG j hj];decide)
 have same:f'=m.f→L'=m.L0→RFr h h2 g (g.put vt' Gt' g.v g.G [] h.n)∧RC h2 (g.put vt' Gt' g.v g.G [] h.n) rb m:=fun e1 e2 =>
  R.mk2 hn f2.g (fun j hj k0=>f2.get j hj fun hm=>hTF j hm k0) R.I rfl (by rw [←e1,←e2];exact T2) gc2 so2 (fun p hp=>⟨(G2 p.2 (by rw [R.ku p hp];decide) (by rw [R.ku p hp];decide)).trans (R.us p hp),.inl ⟨R.k0 _ (by rw [R.ku p hp];decide),R.ku p hp⟩⟩) R.pm R.nd
   (fun j hj=>by
    rcases hnewT j hj with z | z
    ·exact .inl z
    ·exact .inr ⟨z,by simp⟩) (fun j hj=>.inl (R.kG j hj)) (by simp)
 have ez:encT zSp=[.int .i64 0,.int .i64 0,.int .i64 0]:=rfl
 rcases A2 with ⟨e,e0,rfl,rfl,rfl⟩ | ⟨a,rfl,k1,rfl,rfl⟩
 ·have he:(k<1∧e=1∧f'=m.f)∨(1≤k∧m.fit k.toNat=none∧e=3∧f'=m.f):=by
   rcases A1 with ⟨q,qf,qe⟩ | ⟨q0,q,qf,qe⟩ | ⟨_,x,_,_,qe⟩
   ·simp at qe;exact .inl ⟨q,qe,qf⟩
   ·simp at qe
    exact .inr ⟨q0,(fit_none (by omega) (fun q=>f_out m)).2 q,qe,qf⟩
   ·simp at qe;omega
  have hf':f'=m.f:=by rcases he with z | z;exact z.2.2;exact z.2.2.2
  obtain ⟨F3,R3⟩:=same hf' rfl
  have de:decide (e=0)=false:=decide_eq_false e0
  simp -implicitDefEqProofs (disch:=first|exact dz _|fail) only [↓AM.R0,AM.R1,AM.R2,reduceAdd,reduceLeDiff,reduceEqDiff,reduceToNat,Nat.reduceLT,↓reduceIte,reduceEq,Int.reduceLT,reduceLE,ez,de]
  subst hQ
  refine ⟨_,F3.tmp (ft _),?_⟩
  rcases he with ⟨z1,rfl,_⟩ | ⟨z1,z2,rfl,_⟩
  ·exact .inl ⟨z1,R3.keep (ft _),rfl⟩
  ·exact .inr (.inl ⟨z1,z2,R3.keep (ft _),rfl⟩)
 ·have hk1:1≤k:=k1
  obtain ⟨fa,hg⟩:FirstAt m.f k.toNat a∧(∀ q:Nat,f' q=if a≤q∧q<a+k.toNat then false else m.f q):=by
   rcases A1 with ⟨q,_⟩ | ⟨_,q,qf,qe⟩ | ⟨_,x,q1,q2,qe⟩
   ·omega
   ·simp at qe
   ·simp at qe
    obtain rfl:a=x:=by omega
    exact ⟨q1,q2⟩
  have hft:m.fit k.toNat=some a:=(fit_some (by omega) (fun q=>f_out m)).2 fa
  obtain ⟨I',hb1,hb2⟩:=hB a hk1 fa
  generalize hb:(⟨a,k.toNat,cls,0,none⟩:Blk)=b at *
  have hba:b.a=a:=by rw [←hb]
  have hbk:b.k=k.toNat:=by rw [←hb]
  have hbc:b.c=cls:=by rw [←hb]
  have hbu:b.u=0:=by rw [←hb]
  have hbw:b.w=none:=by rw [←hb]
  have msb:=fun hh:AHeap=>msB hh nc hnc
  have q2:=so2.rd.cells
  simp -implicitDefEqProofs (disch:=first|exact dz _|fail) only [↓AM.R0,AM.R1,AM.R2,reduceAdd,reduceLeDiff,reduceEqDiff,reduceToNat,Nat.reduceLT,↓reduceIte,reduceEq,Int.reduceLT,reduceLE,encT,gc2,msb,q2.1,q2.2]
  have F3:=ft (.cells 0 false [.int .i64 (a:Nat),.int .i64 (k.toNat:Nat),.int .i64 0])
  have gt3:((h2.push (.cells 0 false [.int .i64 0,.int .i64 0,.int .i64 0])).set h2.n (.cells 0 false [.int .i64 (a:Nat),.int .i64 (k.toNat:Nat),.int .i64 0])).get h2.n=.cells 0 false [.int .i64 (a:Nat),.int .i64 (k.toNat:Nat),.int .i64 0]:=AHeap.get_set_same _ _ _
  have n3:((h2.push (.cells 0 false [.int .i64 0,.int .i64 0,.int .i64 0])).set h2.n (.cells 0 false [.int .i64 (a:Nat),.int .i64 (k.toNat:Nat),.int .i64 0])).n=h2.n+1:=by simp
  generalize (h2.push (.cells 0 false [.int .i64 0,.int .i64 0,.int .i64 0])).set h2.n (.cells 0 false [.int .i64 (a:Nat),.int .i64 (k.toNat:Nat),.int .i64 0])=h3 at *
  have F4:HFrame h2 (h3.push (.cells 0 false (boolsV nc 0))) [] []:=F3.pushTmp _
  have g4:(h3.push (.cells 0 false (boolsV nc 0))).get (h2.n+1)=.cells 0 false (boolsV nc 0):=by rw [←n3];exact AHeap.get_push_same _ _
  have gt4:(h3.push (.cells 0 false (boolsV nc 0))).get h2.n=.cells 0 false [.int .i64 (a:Nat),.int .i64 (k.toNat:Nat),.int .i64 0]:=(AHeap.get_push_ne _ _ (by omega)).trans gt3
  have n4:(h3.push (.cells 0 false (boolsV nc 0))).n=h2.n+1+1:=by simp [n3]
  generalize h3.push (.cells 0 false (boolsV nc 0))=h4 at *
  have so4:=so2.frame F4.n fun j hj=>F4.get j (so2.lt j hj) (by simp)
  have er:([.int .i64 (a:Nat),.int .i64 cls,.int .i64 (wd:Nat),.sl (h2.n+1) 0 0 nc 1,.int .i64 (-1)]:List AVal)=encRB (b,h2.n+1):=by unfold encRB;rw [hba,hbc,hb2,hb1,hbw];rfl
  rw [er,←n4]
  refine AM.trOp_of (SlOf.app1 so4 (fun _=>rfl) (fun _=>rfl) (by omega) (b,h2.n+1) fun v' h5 F5 s5 f5=>?_)
  have cG:∀ j,g.K j≠2→j ∉ g.G:=fun j q hm=>q (R.kG j hm)
  have gc4:=(F4.get g.c lc2 (by simp)).trans gc2
  have gc5:=(f5.get g.c (by omega) (cG _ (by rw [R.kc];decide))).trans ((F4.get g.c lc2 (by simp)).trans gc2)
  have q5:=s5.rd.cells
  have n5:=f5.n
  have lc5:g.c<h5.n:=by omega
  have w5:IntKind.i64.wrap (((rb++[(b,h2.n+1)]).length:Nat)-1:Int)=(rb.length:Nat):=by
   rw [List.length_append,List.length_singleton]
   exact (wrap64 (by omega) (by omega)).trans (by omega)
  have s5l:=s5.len
  simp -implicitDefEqProofs (disch:=first|exact dz _|fail) only [↓AM.R0,AM.R1,AM.R2,reduceAdd,reduceLeDiff,reduceEqDiff,reduceToNat,Nat.reduceLT,↓reduceIte,reduceEq,Int.reduceLT,reduceLE,gc5,q5.1,q5.2,s5l,w5,gc4,gt4]
  subst hQ
  have hlt:=first_lt (by omega) fa
  have f6:HFrame h5 (h5.set g.c (.cells 0 false [.ptr g.u 0 0,v',.int .i64 m.pr])) [g.c] [g.c]:=HFrame.set _ _ _ (by simp) (by simpa using lc5)
  have old:∀ j,j<h.n→g.K j≠1→g.K j≠2→(h5.set g.c (.cells 0 false [.ptr g.u 0 0,v',.int .i64 m.pr])).get j=h2.get j:=fun j q1 q2 q3=>by
   rw [AHeap.get_set_ne _ _ (by rintro rfl;exact q2 R.kc),f5.get j (by omega) (cG j q3),F4.get j (by omega) (by simp)]
  have T6:RTab (h5.set g.c (.cells 0 false [.ptr g.u 0 0,v',.int .i64 m.pr])) g.u g.r g.b (m.ins b).n (m.ins b).f (m.ins b).L0 vt' Gt':=by
   have ef:(m.ins b).f=f':=by
    rw [ins_f m b (by rw [hba,hbk];exact hlt)]
    funext q
    rw [hg q,hba,hbk]
   have kt':∀ j,j∈[g.u,g.r,g.b]++Gt'→g.K j≠1∧g.K j≠2∧j≠g.c:=fun j hj=>by
    have:g.K j=4∨h.n≤j:=by
     rcases f2.new j hj with z | z
     ·exact .inl (R.kt j z)
     ·exact .inr z
    rcases this with z | z
    ·exact ⟨by omega,by omega,by rintro rfl;rw [R.kc] at z;omega⟩
    ·have:g.K j=0:=Decidable.byContradiction fun q=>by have:=R.k0 j q;omega
     exact ⟨by omega,by omega,by omega⟩
   rw [ef,L0_ins,hba,hbk]
   exact ((T2.keep F4).keepD f5 fun j hj=>cG j (kt' j hj).2.1).keepD f6 fun j hj hm=>(kt' j hj).2.2 (by simpa using hm)
  obtain ⟨Fr,R'⟩:=R.mk2 (h':=h5.set g.c (.cells 0 false [.ptr g.u 0 0,v',.int .i64 m.pr])) (m':=m.ins b) (rb':=rb++[(b,h2.n+1)]) (vt:=vt') (v:=v') (Gt:=Gt') (G:=F5) (ex:=[h2.n+1]) (by show h.n≤h5.n;omega) (by show h5.g=h.g;rw [f5.g,F4.g,f2.g])
   (fun j q1 q2=>(old j q1 (by omega) (by omega)).trans (f2.get j q1 fun hm=>hTF j hm q2)) I' rfl T6 (AHeap.get_set_same _ _ _)
   (s5.frame (Nat.le_refl _) fun j hj=>by
    rw [AHeap.get_set_ne]
    rintro rfl
    rcases f5.new _ hj with z | z
    ·exact cG _ (by rw [R.kc];decide) z
    ·omega)
   (fun p hp=>by
    rcases List.mem_append.1 hp with z | z
    ·have kp:=R.ku p z
     exact ⟨(old p.2 (R.k0 _ (by omega)) (by omega) (by omega)).trans ((G2 p.2 (by omega) (by omega)).trans (R.us p z)),.inl ⟨R.k0 _ (by omega),kp⟩⟩
    ·obtain rfl:p=(b,h2.n+1):=by simpa using z
     refine ⟨?_,.inr ⟨by show h.n≤h2.n+1;omega,by simp⟩⟩
     show (h5.set g.c _).get (h2.n+1)=.cells 0 false (boolsV b.nc b.u)
     rw [AHeap.get_set_ne _ _ (by omega),f5.get _ (by omega) (fun hm=>by have:=R.k0 _ (by rw [R.kG _ hm];decide);omega),g4,hb1,hbu])
   (by
    rw [List.map_append]
    exact (List.perm_append_singleton b _).trans ((List.Perm.cons b R.pm).trans (ins_perm b m.bl).symm))
   (by
    rw [List.map_append,List.nodup_append]
    refine ⟨R.nd,by simp,fun x hx y hy=>?_⟩
    obtain rfl:y=h2.n+1:=by simpa using hy
    obtain ⟨p,hp,rfl⟩:=List.mem_map.1 hx
    have:=R.k0 p.2 (by rw [R.ku p hp];decide)
    omega)
   (fun j hj=>by
    rcases hnewT j hj with z | z
    ·exact .inl z
    ·have:=T2.flt j (List.mem_append_right _ hj)
     exact .inr ⟨z,by simp;omega⟩)
   (fun j hj=>by
    rcases f5.new j hj with z | z
    ·exact .inl (R.kG j z)
    ·exact .inr ⟨by omega,by simp;omega,fun hm=>by have:=T2.flt j (List.mem_append_right _ hm);omega⟩)
   (fun j hj=>by
    obtain rfl:j=h2.n+1:=by simpa using hj
    show h2.n+1<h5.n;omega)
  refine ⟨R.so.beq,_,Fr,.inr (.inr ⟨a,hk1,hft,fa,h2.n+1,by rw [hb];exact R',rfl⟩)⟩
end Go.Proofs.YthillgheddpmhaaDoor.Pg
namespace Go.Proofs.YthillgheddpmhaaDoor.Pg
open Go Go.AM Go.Proofs.YthillgheddpmhaaDoor.AmGJ
open Nat (reduceAdd reduceLeDiff reduceEqDiff)
open Int (reduceToNat reduceEq reduceLE)
attribute [local irreducible] pc
variable {h h':AHeap} {g g':RI} {rb:List (Blk×Nat)} {m:Cm}
theorem SlOf.same {α:Type} {enc:α→List AVal} {n:Nat} {v:AVal} {l l':List α} {G:List Nat} (s:SlOf h n enc v l G) (hl:l'.length=l.length) (hf:l'.flatMap enc=l.flatMap enc):SlOf h n enc v l' G:=by
 rcases s with ⟨e1,e2,e3⟩ | ⟨id,g,off,vs,e1,e2,e3,e4,e5,e6⟩
 ·subst e2
  exact .inl ⟨e1,List.length_eq_zero_iff.1 hl,e3⟩
 ·exact .inr ⟨id,g,off,vs,by rw [hl];exact e1,e2,e3,by rw [hl];exact e4,by rw [hf];exact e5,e6⟩
theorem flat_set_same {α:Type} {enc:α→List AVal} {a' a:α} (ha:enc a'=enc a):∀ {l:List α} {j:Nat},l[j]?=some a→(l.set j a').flatMap enc=l.flatMap enc
 | [],j,h=>by simp at h
 | b::l,0,h=>by simp at h;subst h;simp [ha]
 | b::l,j+1,h=>by
  rw [List.set_cons_succ,List.flatMap_cons,List.flatMap_cons,flat_set_same ha (l:=l) (j:=j) (by simpa using h)]
theorem RC.setW (R:RC h g rb m) {i:Nat} {p:Blk×Nat} (hi:rb[i]?=some p) :
  ∃ id gn off vs,h.get id=.cells gn false vs∧id<h.n∧off+i*5+5≤vs.length∧ixV h 5 g.v (.int .i64 (i:Int))=some (.ptr id gn (off+i*5),h)∧(vs.drop (off+i*5)).take 5=encRB p∧g.K id=2 ∧
   ∀ w,CInv (m.upd p.1.a (Blk.setW w))→RC (h.set id (.cells gn false (vs.take (off+i*5+4)++[.int .i64 (holdI w)]++vs.drop (off+i*5+4+1)))) g (rb.set i (Blk.setW w p.1,p.2)) (m.upd p.1.a (Blk.setW w)):=by
 obtain ⟨id,gn,off,vs,_,x2,x3,_,x5,x6,x7,x8,_⟩:=SlOf.updC (enc:=encRB) (n:=5) R.so (fun _=>rfl) hi (c:=4) (by omega) (x:=.int .i64 (holdI p.1.w)) (a':=p) rfl
 have k2:g.K id=2:=R.kG id (by rw [x5];simp)
 refine ⟨id,gn,off,vs,x2,x3,x8,x6,x7,k2,fun w I'=>?_⟩
 obtain ⟨id',gn',off',vs',z1,y2,_,_,y5,y6,_,_,so'⟩:=SlOf.updC (enc:=encRB) (n:=5) R.so (fun _=>rfl) hi (c:=4) (by omega) (x:=.int .i64 (holdI w)) (a':=(Blk.setW w p.1,p.2)) rfl
 obtain rfl:id=id':=by rw [x5] at y5;simpa using y5
 rw [x2] at y2;injection y2 with e1 e2 e3;subst e1;subst e3
 rw [x6] at y6
 obtain rfl:off=off':=by injection y6 with e;injection e with e _;injection e with _ _ e;omega
 have hK3:∀ q,q∈rb→q.2≠id:=fun q hq e=>by have:=R.ku q hq;rw [e,k2] at this;omega
 exact R.upd hi (fun _=>⟨rfl,rfl⟩) I' (HFrame.set (F:=[id]) _ _ _ (by simp) (by simpa using x3)) (fun j hj=>.inl (by rw [List.mem_singleton] at hj;rw [hj];exact k2)) so'
  ((AHeap.get_set_ne _ _ (hK3 p (List.mem_of_getElem? hi))).trans (R.us p (List.mem_of_getElem? hi))) (fun q hq _=>by simpa using hK3 q hq)
theorem RC.setB (R:RC h g rb m) {i:Nat} {p:Blk×Nat} (hi:rb[i]?=some p) {k u:Nat} {x:Bool} (hk:k<p.1.nc) (hu:∀ j,j<p.1.nc→u.testBit j=if j=k then x else p.1.u.testBit j) (I':CInv (m.upd p.1.a (Blk.setU u))) :
  RC (h.set p.2 (.cells 0 false ((boolsV p.1.nc p.1.u).take k++[.bool x]++(boolsV p.1.nc p.1.u).drop (k+1)))) g (rb.set i (Blk.setU u p.1,p.2)) (m.upd p.1.a (Blk.setU u)):=by
 have hpm:=List.mem_of_getElem? hi
 have kp:=R.ku p hpm
 have lp:=R.k0 p.2 (by rw [kp];decide)
 have hb:(boolsV p.1.nc p.1.u).take k++[.bool x]++(boolsV p.1.nc p.1.u).drop (k+1)=boolsV p.1.nc u:=by
  have:boolsV p.1.nc u=(boolsV p.1.nc p.1.u).set k (.bool x):=by
   apply List.ext_getElem?
   intro j
   rw [List.getElem?_set]
   rcases Nat.lt_or_ge j p.1.nc with c | c
   ·rw [bools_at c,bools_at c,hu j c,bools_len]
    by_cases e:k=j
    ·subst e;simp [hk]
    ·rw [if_neg e,if_neg (fun q=>e q.symm)]
   ·rw [List.getElem?_eq_none (by rw [bools_len];exact c),if_neg (by omega),List.getElem?_eq_none (by rw [bools_len];exact c)]
  rw [this,List.set_eq_take_append_cons_drop,if_pos (by rw [bools_len];exact hk),List.append_assoc];rfl
 rw [hb]
 refine R.upd hi (f:=Blk.setU u) (fun _=>⟨rfl,rfl⟩) I' (HFrame.set (F:=[p.2]) _ _ _ (by simp) (by simpa using lp)) (fun j hj=>.inr (by simpa using hj)) ?_ (AHeap.get_set_same _ _ _) (fun q hq hne=>by simpa using hne)
 refine SlOf.same (SlOf.frame R.so (Nat.le_refl _) fun j hj=>AHeap.get_set_ne _ _ (by rintro rfl;rw [R.kG _ hj] at kp;omega)) (List.length_set ..) (flat_set_same (a:=p) (a':=(Blk.setU u p.1,p.2)) rfl hi)
theorem rowAt {vs l:List AVal} {o n:Nat} (h:(vs.drop o).take n=l) {k:Nat} (hk:k<n):vs[o+k]?=l[k]?:=by
 rw [←h,List.getElem?_take,if_pos hk,List.getElem?_drop]
theorem free_full (I:CInv m) {b:Blk} (hb:b∈m.bl) {c:Nat} (h1:c<16) (hc:b.c=(c:Int)):(b.full=true∧freeI b=-1)∨(b.full=false∧freeI b=(lowZ b.u:Int)∧lowZ b.u<b.nc∧b.u.testBit (lowZ b.u)=false):=by
 obtain ⟨c',q1,q2,q3,q4⟩:=I.cls hb (by omega)
 obtain rfl:c=c':=by omega
 have ht:=tabs c h1
 have hn:b.nc=cellT.getD c 0:=by unfold Blk.nc;rw [if_neg (by omega),hc,Int.toNat_natCast]
 have hf:b.full=decide (pc 64 b.u=b.nc):=by unfold Blk.full;rw [hn,hc,Int.toNat_natCast]
 have hu:b.u<2^b.nc:=by rw [hn];exact q4
 have h64:=(nc_le I hb).1
 rw [hf]
 unfold freeI
 by_cases hp:pc 64 b.u=b.nc
 ·refine .inl ⟨decide_eq_true hp,if_neg ?_⟩
  rintro ⟨k,hk,hbit⟩
  have h1:=pc_set 64 k b.u (by omega) hbit
  have h2:b.u ||| 2^k<2^b.nc:=Nat.or_lt_two_pow hu (Nat.pow_lt_pow_right (by decide) hk)
  have h3:=pc_top h64 h2
  have h4:=pc_le' b.nc (b.u ||| 2^k)
  omega
 ·obtain ⟨z1,z2,z3⟩:=lowZ_ok h64 hu hp
  exact .inr ⟨decide_eq_false hp,if_pos ⟨lowZ b.u,z1,z2⟩,z1,z2⟩
theorem spare_eq (I:CInv m) {c:Nat} {b:Blk} (hb:b∈m.bl) (hc:b.can c=true) (hm:∀ b',b'∈m.bl→b'.can c=true→b.a≤b'.a):m.spare c=some b:=by
 unfold Cm.spare
 have hp:m.bl.Pairwise fun s t=>s.a<t.a:=by
  have h1:=I.S.srt
  unfold Cm.L at h1
  rw [List.pairwise_map] at h1
  refine List.Pairwise.imp_of_mem (fun {s t} hs ht (hst:s.a+s.k≤t.a)=>?_) h1
  have:=(I.bd hs).1
  omega
 generalize m.bl=l at *
 clear I
 induction l with
 | nil=>simp at hb
 | cons x l ih =>
  rw [List.pairwise_cons] at hp
  by_cases e:x.can c=true
  ·rw [List.find?_cons_of_pos e]
   rcases List.mem_cons.1 hb with q | q
   ·rw [q]
   ·have h1:=hm x (List.mem_cons_self ..) e
    have h2:=hp.1 b q
    omega
  ·rw [List.find?_cons_of_neg e]
   rcases List.mem_cons.1 hb with q | q
   ·rw [q] at hc;exact absurd hc e
   ·exact ih q (fun b' hb'=>hm b' (List.mem_cons_of_mem _ hb')) hp.2
theorem can_iff (I:CInv m) {b:Blk} (hb:b∈m.bl) {c:Nat} (h1:c<16):b.can c=true↔b.c=(c:Int)∧holdI b.w<0∧0≤freeI b:=by
 unfold Blk.can
 have hw:b.w.isNone=true↔holdI b.w<0:=by
  cases b.w with
  | none=>simp [holdI]
  | some p=>simp [holdI]
 simp only [Bool.and_eq_true,decide_eq_true_eq,Bool.not_eq_true',hw]
 constructor
 ·rintro ⟨e1,e2,e3⟩
  refine ⟨e1,e2,?_⟩
  rcases free_full I hb h1 e1 with ⟨q,_⟩ | ⟨_,q,_⟩
  ·rw [e3] at q;cases q
  ·omega
 ·rintro ⟨e1,e2,e3⟩
  refine ⟨e1,e2,?_⟩
  rcases free_full I hb h1 e1 with ⟨_,q⟩ | ⟨q,_⟩
  ·omega
  ·exact q
theorem hold_is {w:Option Nat} {p:Nat}:holdI w=(p:Int)↔w=some p:=by
 cases w with
 | none=>simp [holdI]
 | some q=>simp only [holdI,Option.some.injEq];omega
def PickA (m m':Cm) (rb':List (Blk×Nat)) (p c i:Nat):Prop:=(m'=m∧∀ j q,j<i→rb'[j]?=some q→¬ (q.1.c=(c:Int)∧q.1.w=some p))∨(m.pick p c=m'.pick2 p c∧m'.pr=m.pr∧∀ q,q∈rb'→¬ (q.1.c=(c:Int)∧q.1.w=some p))
def BestA (rb:List (Blk×Nat)) (c i:Nat) (bs:Int):Prop:=(bs=-1∧∀ j q,j<i→rb[j]?=some q→q.1.can c=false)∨(∃ (b:Nat) (q:Blk×Nat),bs=(b:Nat)∧rb[b]?=some q∧q.1.can c=true∧∀ j q',j<i→rb[j]?=some q'→q'.1.can c=true→q.1.a≤q'.1.a)
theorem BestA.skip {rb:List (Blk×Nat)} {c i:Nat} {bs:Int} (B:BestA rb c i bs) {q:Blk×Nat} (hq:rb[i]?=some q) (hn:q.1.can c=false):BestA rb c (i+1) bs:=by
 rcases B with ⟨e,z⟩ | ⟨b,q1,e,z1,z2,z3⟩
 ·refine .inl ⟨e,fun j q' hj hq'=>?_⟩
  rcases Nat.lt_or_ge j i with y | y
  ·exact z j q' y hq'
  ·obtain rfl:j=i:=by omega
   rw [hq] at hq';cases hq';exact hn
 ·refine .inr ⟨b,q1,e,z1,z2,fun j q' hj hq' hc=>?_⟩
  rcases Nat.lt_or_ge j i with y | y
  ·exact z3 j q' y hq' hc
  ·obtain rfl:j=i:=by omega
   rw [hq] at hq';cases hq';rw [hn] at hc;cases hc
set_option maxHeartbeats 16000000 in
theorem rPick (R:RC h g rb m) {p c:Nat} (hp:p<m.pr) (hc:c<16):CallP AP 93 [.ptr g.c 0 0,.int .i64 (p:Int),.int .i64 (c:Int)] h fun r h'=>∃ g' rb',RFr h h' g g'∧RC h' g' rb' (m.pick p c).2 ∧
  (((m.pick p c).1=none∧r=res2 0 3)∨∃ a i q,(m.pick p c).1=some a∧rb'[i]?=some q∧q.1.a=a∧r=res2 (i:Nat) 0):=by
 refine callP (rfl:Tr.get AP 93=some A93) ?_
 generalize hQ:(fun (r:AVal) (h':AHeap)=>_)=Q
 have hlen:=R.len
 simp -implicitDefEqProofs (disch:=first|exact dz _|fail) only [↓AM.R0,AM.R1,AM.R2,reduceAdd,reduceLeDiff,reduceEqDiff,reduceToNat,Nat.reduceLT,↓reduceIte,reduceEq,Int.reduceLT,reduceLE]
 refine AM.loopI_of (fun k e h'=>∃ (i:Nat) (rb':List (Blk×Nat)) (m':Cm),k+i=rb.length∧rb'.length=rb.length∧RFr h h' g g∧RC h' g rb' m'∧PickA m m' rb' p c i∧e.val 0=.ptr g.c 0 0∧e.val 1=.int .i64 (p:Int)∧e.val 2=.int .i64 (c:Int)∧e.val 8=.int .i64 (-1)∧e.val 9=.int .i64 (i:Int)) rb.length ?_ ?_
 ·refine ⟨0,rb,m,by omega,rfl,RFr.refl _ _,R,.inl ⟨rfl,fun j q hj=>by omega⟩,?_,?_,?_,?_,?_⟩<;>(simp -implicitDefEqProofs (disch:=first|exact dz _|fail) only [↓AM.R0,AM.R1,AM.R2,reduceAdd,reduceLeDiff,reduceEqDiff,reduceToNat,Nat.reduceLT,↓reduceIte,reduceEq,Int.reduceLT,reduceLE])<;>rfl
 ·rintro k e h' ⟨i,rb',m',hk,hl',Fr,R',hA,y0,y1,y2,y8,y9⟩
  have g1:=R'.obj
  have lc:g.c<h'.n:=R'.k0 _ (by rw [R'.kc];decide)
  simp -implicitDefEqProofs (disch:=first|exact dz _|fail) only [↓AM.R0,AM.R1,AM.R2,reduceAdd,reduceLeDiff,reduceEqDiff,reduceToNat,Nat.reduceLT,↓reduceIte,reduceEq,Int.reduceLT,reduceLE,y0,y9,g1,R'.so.len]
  refine AM.cI_bool (fun hcc=>?_) (fun hcc=>?_)
  ·simp only [decide_eq_true_eq] at hcc
   obtain ⟨q,hq⟩:∃ q,rb'[i]?=some q:=⟨_,List.getElem?_eq_getElem (by omega)⟩
   have hqm:=List.mem_of_getElem? hq
   have hb:=R'.mem hqm
   obtain ⟨hnc,hu,hr1,hr2⟩:=nc_le R'.I hb
   obtain ⟨id,gn,off,vs,x1,x2,x3,x4,x5,x6,_⟩:=R'.setW hq
   have fq:=((HFrame.refl (h:=h') (F:=[]) (by simp)).pushTmp (.cells 0 false z5)).setTmp (i:=h'.n) (Nat.le_refl _) (.cells 0 false (encRB q))
   have gq:((h'.push (.cells 0 false z5)).set h'.n (.cells 0 false (encRB q))).get h'.n=.cells 0 false (encRB q):=AHeap.get_set_same _ _ _
   have nq:((h'.push (.cells 0 false z5)).set h'.n (.cells 0 false (encRB q))).n=h'.n+1:=by simp
   have R5:=R'.keep fq
   have w1:IntKind.i64.wrap ((i:Int)+1)=((i+1:Nat):Int):=(wrap64 (by omega) (by omega)).trans (by omega)
   have hskip:¬ (q.1.c=(c:Int)∧q.1.w=some p)→PickA m m' rb' p c (i+1):=fun hn=>by
    rcases hA with ⟨z1,z2⟩ | z
    ·refine .inl ⟨z1,fun j q' hj hq'=>?_⟩
     rcases Nat.lt_or_ge j i with y | y
     ·exact z2 j q' y hq'
     ·obtain rfl:j=i:=by omega
      rw [hq] at hq';cases hq';exact hn
    ·exact .inr z
   by_cases c1:q.1.c=(c:Int)
   ·have d1:decide (q.1.c=(c:Int))=true:=decide_eq_true c1
    by_cases c2:holdI q.1.w=(p:Int)
    ·have d2:decide (holdI q.1.w=(p:Int))=true:=decide_eq_true c2
     simp -implicitDefEqProofs (disch:=first|exact dz _|fail) only [↓AM.R0,AM.R1,AM.R2,reduceAdd,reduceLeDiff,reduceEqDiff,reduceToNat,Nat.reduceLT,↓reduceIte,reduceEq,Int.reduceLT,reduceLE,y0,y1,y2,y9,g1,x1,x2,x3,x4,x5,encRB,d1,d2]
     have hwp:=hold_is.1 c2
     have hmm:m'=m:=by
      rcases hA with ⟨z1,_⟩ | ⟨_,_,z⟩
      ·exact z1
      ·exact absurd ⟨c1,hwp⟩ (z q hqm)
     subst hmm
     have hheld:=R'.I.held hb c1 hwp
     have u64:q.1.u<18446744073709551616:=Nat.lt_of_lt_of_le hu (Nat.pow_le_pow_right (by decide) hnc)
     simp only [encRB] at fq gq nq R5
     generalize (h'.push (.cells 0 false z5)).set h'.n (.cells 0 false [.int .i64 (q.1.a:Int),.int .i64 q.1.c,.int .i64 (q.1.rws:Int),.sl q.2 0 0 q.1.nc 1,.int .i64 (holdI q.1.w)])=h5 at *
     refine AM.callI_of (rFree (b:=q.1) (i:=q.2) u64 hnc (R5.us q hqm) (R5.k0 _ (by rw [R5.ku q hqm];decide))) ?_
     rintro r h6 ⟨f6,rfl⟩
     have R6:=R5.keep f6
     have n6:=f6.n
     have g6:=(f6.get h'.n (by omega) (by simp)).trans gq
     have gc6:=R6.obj
     have lc6:g.c<h6.n:=by omega
     rcases free_full R'.I hb hc c1 with ⟨z1,z2⟩ | ⟨z1,z2,z3,z4⟩
     ·rw [z2]
      obtain ⟨id',gn',off',vs',s1,s2,s3,s4,s5,s6,s7⟩:=R6.setW hq
      simp -implicitDefEqProofs (disch:=first|exact dz _|fail) only [↓AM.R0,AM.R1,AM.R2,reduceAdd,reduceLeDiff,reduceEqDiff,reduceToNat,Nat.reduceLT,↓reduceIte,reduceEq,Int.reduceLT,reduceLE,y0,y1,y2,y8,y9,g6,gc6,s1,s2,s3,s4,s5,d1,d2,w1]
      have I2:CInv (m'.upd q.1.a (Blk.setW none)):=R'.I.setW hb c1 (by intro _ e;cases e)
      refine ⟨k-1,by omega,i+1,rb'.set i (Blk.setW none q.1,q.2),_,by omega,by rw [List.length_set];exact hl',((Fr.tmp fq).tmp f6).set (fun _=>by rw [s6];decide) _,s7 none I2,.inr ⟨?_,rfl,fun q' hq'=>?_⟩,rfl⟩
      ·unfold Cm.pick;rw [hheld];simp only [z1,if_true]
      ·rintro ⟨y5,y6⟩
       obtain ⟨j,hj⟩:=List.getElem?_of_mem hq'
       by_cases e:i=j
       ·subst e
        rw [List.getElem?_set_self (by omega)] at hj
        cases hj;cases y6
       ·rw [List.getElem?_set_ne e] at hj
        exact e (rb_same R' hq hj (R'.I.H _ _ p hb (R'.mem (List.mem_of_getElem? hj)) hwp y6 (c1.trans y5.symm)))
     ·rw [z2]
      have d3:decide ((0:Int)≤((lowZ q.1.u:Nat):Int))=true:=decide_eq_true (by omega)
      simp -implicitDefEqProofs (disch:=first|exact dz _|fail) only [↓AM.R0,AM.R1,AM.R2,reduceAdd,reduceLeDiff,reduceEqDiff,reduceToNat,Nat.reduceLT,↓reduceIte,reduceEq,Int.reduceLT,reduceLE,y0,y1,y2,y9,g6,gc6,d1,d2,d3]
      subst hQ
      have hpk:m'.pick p c=(some q.1.a,m'):=by unfold Cm.pick;rw [hheld];simp only [z1];rfl
      rw [hpk]
      exact ⟨g,rb',(Fr.tmp fq).tmp f6,R6,.inr ⟨_,i,q,rfl,hq,rfl,rfl⟩⟩
    ·have d2:decide (holdI q.1.w=(p:Int))=false:=decide_eq_false c2
     simp -implicitDefEqProofs (disch:=first|exact dz _|fail) only [↓AM.R0,AM.R1,AM.R2,reduceAdd,reduceLeDiff,reduceEqDiff,reduceToNat,Nat.reduceLT,↓reduceIte,reduceEq,Int.reduceLT,reduceLE,y0,y1,y2,y8,y9,g1,x1,x2,x3,x4,x5,encRB,d1,d2,w1]
     exact ⟨k-1,by omega,i+1,rb',m',by omega,hl',Fr.tmp fq,R5,hskip fun z=>c2 (hold_is.2 z.2),rfl⟩
   ·have d1:decide (q.1.c=(c:Int))=false:=decide_eq_false c1
    simp -implicitDefEqProofs (disch:=first|exact dz _|fail) only [↓AM.R0,AM.R1,AM.R2,reduceAdd,reduceLeDiff,reduceEqDiff,reduceToNat,Nat.reduceLT,↓reduceIte,reduceEq,Int.reduceLT,reduceLE,y0,y1,y2,y8,y9,g1,x1,x2,x3,x4,x5,encRB,d1,w1]
    exact ⟨k-1,by omega,i+1,rb',m',by omega,hl',Fr.tmp fq,R5,hskip fun z=>c1 z.1,rfl⟩
  ·simp only [decide_eq_false_iff_not] at hcc
   have hA2:m.pick p c=m'.pick2 p c∧m'.pr=m.pr∧m'.held p c=none:=by
    have hno:(∀ q,q∈rb'→¬ (q.1.c=(c:Int)∧q.1.w=some p))→m'.held p c=none:=fun hq=>held_none.2 fun b hb=>by
     obtain ⟨i,hi⟩:=R'.has hb
     exact hq _ hi
    rcases hA with ⟨z1,z2⟩ | ⟨z1,z2,z3⟩
    ·have hn:=hno fun q hq=>by
      obtain ⟨j,hj⟩:=List.getElem?_of_mem hq
      have:=(List.getElem?_eq_some_iff.1 hj).1
      exact z2 j q (by omega) hj
     refine ⟨?_,by rw [z1],hn⟩
     rw [z1] at hn
     rw [z1];unfold Cm.pick;rw [hn]
    ·exact ⟨z1,z2,hno z3⟩
   obtain ⟨hpk,hpr',hhn⟩:=hA2
   clear hA
   have hn2:=R'.n2
   simp -implicitDefEqProofs (disch:=first|exact dz _|fail) only [↓AM.R0,AM.R1,AM.R2,reduceAdd,reduceLeDiff,reduceEqDiff,reduceToNat,Nat.reduceLT,↓reduceIte,reduceEq,Int.reduceLT,reduceLE]
   refine AM.loopI_of (fun k e h2=>∃ (i:Nat) (bs:Int),k+i=rb'.length∧HFrame h' h2 [] []∧BestA rb' c i bs∧e.val 0=.ptr g.c 0 0∧e.val 1=.int .i64 (p:Int)∧e.val 2=.int .i64 (c:Int)∧e.val 8=.int .i64 bs∧e.val 11=.int .i64 (i:Int)) rb'.length ?_ ?_
   ·refine ⟨0,-1,by omega,HFrame.refl (by simp),.inl ⟨rfl,fun j q hj=>by omega⟩,?_,?_,?_,?_,?_⟩<;>(simp -implicitDefEqProofs (disch:=first|exact dz _|fail) only [↓AM.R0,AM.R1,AM.R2,reduceAdd,reduceLeDiff,reduceEqDiff,reduceToNat,Nat.reduceLT,↓reduceIte,reduceEq,Int.reduceLT,reduceLE,y0,y1,y2,y8])<;>rfl
   ·clear y0 y1 y2 y8 y9
    rintro k e h2 ⟨i,bs,hk,F,B,y0,y1,y2,y8,y11⟩
    have R2:=R'.keep F
    have g1:=R2.obj
    have lc:g.c<h2.n:=R2.k0 _ (by rw [R2.kc];decide)
    simp -implicitDefEqProofs (disch:=first|exact dz _|fail) only [↓AM.R0,AM.R1,AM.R2,reduceAdd,reduceLeDiff,reduceEqDiff,reduceToNat,Nat.reduceLT,↓reduceIte,reduceEq,Int.reduceLT,reduceLE,y0,y11,g1,R2.so.len]
    refine AM.cI_bool (fun hcc=>?_) (fun hcc=>?_)
    ·simp only [decide_eq_true_eq] at hcc
     obtain ⟨q,hq⟩:∃ q,rb'[i]?=some q:=⟨_,List.getElem?_eq_getElem (by omega)⟩
     have hqm:=List.mem_of_getElem? hq
     have hb:=R'.mem hqm
     obtain ⟨hnc,hu,hr1,hr2⟩:=nc_le R'.I hb
     obtain ⟨id,gn,off,vs,x1,x2,x3,x4,x5,x6,_⟩:=R2.setW hq
     have fq:=((HFrame.refl (h:=h2) (F:=[]) (by simp)).pushTmp (.cells 0 false z5)).setTmp (i:=h2.n) (Nat.le_refl _) (.cells 0 false (encRB q))
     have gq:((h2.push (.cells 0 false z5)).set h2.n (.cells 0 false (encRB q))).get h2.n=.cells 0 false (encRB q):=AHeap.get_set_same _ _ _
     have nq:((h2.push (.cells 0 false z5)).set h2.n (.cells 0 false (encRB q))).n=h2.n+1:=by simp
     have R5:=R2.keep fq
     have w1:IntKind.i64.wrap ((i:Int)+1)=((i+1:Nat):Int):=(wrap64 (by omega) (by omega)).trans (by omega)
     have hcan:=can_iff R'.I hb hc
     by_cases c1:q.1.c=(c:Int)
     ·have d1:decide (q.1.c=(c:Int))=true:=decide_eq_true c1
      by_cases c2:holdI q.1.w<0
      ·have d2:decide (holdI q.1.w<0)=true:=decide_eq_true c2
       simp -implicitDefEqProofs (disch:=first|exact dz _|fail) only [↓AM.R0,AM.R1,AM.R2,reduceAdd,reduceLeDiff,reduceEqDiff,reduceToNat,Nat.reduceLT,↓reduceIte,reduceEq,Int.reduceLT,reduceLE,y0,y1,y2,y8,y11,g1,x1,x2,x3,x4,x5,encRB,d1,d2]
       have u64:q.1.u<18446744073709551616:=Nat.lt_of_lt_of_le hu (Nat.pow_le_pow_right (by decide) hnc)
       simp only [encRB] at fq gq nq R5
       generalize (h2.push (.cells 0 false z5)).set h2.n (.cells 0 false [.int .i64 (q.1.a:Int),.int .i64 q.1.c,.int .i64 (q.1.rws:Int),.sl q.2 0 0 q.1.nc 1,.int .i64 (holdI q.1.w)])=h5 at *
       refine AM.trCall_of (rFree (b:=q.1) (i:=q.2) u64 hnc (R5.us q hqm) (R5.k0 _ (by rw [R5.ku q hqm];decide))) ?_
       rintro r h6 ⟨f6,rfl⟩
       have R6:=R5.keep f6
       have n6:=f6.n
       have l5:h2.n<h5.n:=by omega
       have g6:=(f6.get h2.n (by omega) (by simp)).trans gq
       have gc5:=R5.obj
       have gc6:=R6.obj
       have lc5:g.c<h5.n:=by omega
       have lc6:g.c<h6.n:=by omega
       have F6:=(F.trans fq).trans f6
       rcases free_full R'.I hb hc c1 with ⟨z1,z2⟩ | ⟨z1,z2,z3,z4⟩
       ·rw [z2]
        simp -implicitDefEqProofs (disch:=first|exact dz _|fail) only [↓AM.R0,AM.R1,AM.R2,reduceAdd,reduceLeDiff,reduceEqDiff,reduceToNat,Nat.reduceLT,↓reduceIte,reduceEq,Int.reduceLT,reduceLE,y0,y1,y2,y8,y11,gq,g6,gc5,gc6,d1,d2,w1]
        exact ⟨k-1,by omega,i+1,bs,by omega,F6,B.skip hq (by rw [←Bool.not_eq_true,hcan];omega),rfl,rfl⟩
       ·rw [z2]
        have d3:decide ((0:Int)≤((lowZ q.1.u:Nat):Int))=true:=decide_eq_true (by omega)
        have hcq:q.1.can c=true:=hcan.2 ⟨c1,c2,by omega⟩
        rcases B with ⟨rfl,hB⟩ | ⟨b,q1,rfl,b1,b2,b3⟩
        ·simp -implicitDefEqProofs (disch:=first|exact dz _|fail) only [↓AM.R0,AM.R1,AM.R2,reduceAdd,reduceLeDiff,reduceEqDiff,reduceToNat,Nat.reduceLT,↓reduceIte,reduceEq,Int.reduceLT,reduceLE,y0,y1,y2,y8,y11,gq,g6,gc5,gc6,d1,d2,d3,w1]
         refine ⟨k-1,by omega,i+1,(i:Nat),by omega,F6,.inr ⟨i,q,rfl,hq,hcq,fun j q' hj hq' hc'=>?_⟩,rfl,rfl⟩
         rcases Nat.lt_or_ge j i with y | y
         ·rw [hB j q' y hq'] at hc';cases hc'
         ·obtain rfl:j=i:=by omega
          rw [hq] at hq';cases hq';exact Nat.le_refl _
        ·have hb1l:=(List.getElem?_eq_some_iff.1 b1).1
         obtain ⟨ib,gb,ob,vb,s1,s2,s3,s4,s5,_⟩:=R6.setW b1
         have d4:decide (((b:Nat):Int)<0)=false:=decide_eq_false (by omega)
         have s6:vb[ob+b*5]?=some (.int .i64 (q1.1.a:Nat)):=rowAt s5 (k:=0) (by omega)
         by_cases c4:q.1.a<q1.1.a
         ·have d5:decide (((q.1.a:Nat):Int)<((q1.1.a:Nat):Int))=true:=decide_eq_true (by omega)
          simp -implicitDefEqProofs (disch:=first|exact dz _|fail) only [↓AM.R0,AM.R1,AM.R2,reduceAdd,reduceLeDiff,reduceEqDiff,reduceToNat,Nat.reduceLT,↓reduceIte,reduceEq,Int.reduceLT,reduceLE,y0,y1,y2,y8,y11,gq,g6,gc5,gc6,d1,d2,d3,d4,d5,s1,s2,s3,s4,s6,encRB,w1]
          refine ⟨k-1,by omega,i+1,(i:Nat),by omega,F6,.inr ⟨i,q,rfl,hq,hcq,fun j q' hj hq' hc'=>?_⟩,rfl,rfl⟩
          rcases Nat.lt_or_ge j i with y | y
          ·have:=b3 j q' y hq' hc';omega
          ·obtain rfl:j=i:=by omega
           rw [hq] at hq';cases hq';exact Nat.le_refl _
         ·have d5:decide (((q.1.a:Nat):Int)<((q1.1.a:Nat):Int))=false:=decide_eq_false (by omega)
          simp -implicitDefEqProofs (disch:=first|exact dz _|fail) only [↓AM.R0,AM.R1,AM.R2,reduceAdd,reduceLeDiff,reduceEqDiff,reduceToNat,Nat.reduceLT,↓reduceIte,reduceEq,Int.reduceLT,reduceLE,y0,y1,y2,y8,y11,gq,g6,gc5,gc6,d1,d2,d3,d4,d5,s1,s2,s3,s4,s6,encRB,w1]
          refine ⟨k-1,by omega,i+1,(b:Nat),by omega,F6,.inr ⟨b,q1,rfl,b1,b2,fun j q' hj hq' hc'=>?_⟩,rfl,rfl⟩
          rcases Nat.lt_or_ge j i with y | y
          ·exact b3 j q' y hq' hc'
          ·obtain rfl:j=i:=by omega
           rw [hq] at hq';cases hq';omega
      ·have d2:decide (holdI q.1.w<0)=false:=decide_eq_false c2
       simp -implicitDefEqProofs (disch:=first|exact dz _|fail) only [↓AM.R0,AM.R1,AM.R2,reduceAdd,reduceLeDiff,reduceEqDiff,reduceToNat,Nat.reduceLT,↓reduceIte,reduceEq,Int.reduceLT,reduceLE,y0,y1,y2,y8,y11,g1,x1,x2,x3,x4,x5,encRB,d1,d2,w1]
       exact ⟨k-1,by omega,i+1,bs,by omega,F.trans fq,B.skip hq (by rw [←Bool.not_eq_true,hcan];omega),rfl,rfl⟩
     ·have d1:decide (q.1.c=(c:Int))=false:=decide_eq_false c1
      simp -implicitDefEqProofs (disch:=first|exact dz _|fail) only [↓AM.R0,AM.R1,AM.R2,reduceAdd,reduceLeDiff,reduceEqDiff,reduceToNat,Nat.reduceLT,↓reduceIte,reduceEq,Int.reduceLT,reduceLE,y0,y1,y2,y8,y11,g1,x1,x2,x3,x4,x5,encRB,d1,w1]
      exact ⟨k-1,by omega,i+1,bs,by omega,F.trans fq,B.skip hq (by rw [←Bool.not_eq_true,hcan];omega),rfl,rfl⟩
    ·simp only [decide_eq_false_iff_not] at hcc
     have hi:i=rb'.length:=by omega
     subst hi
     have sp:(bs=-1∧m'.spare c=none)∨∃ (b:Nat) (q:Blk×Nat),bs=(b:Nat)∧rb'[b]?=some q∧m'.spare c=some q.1:=by
      rcases B with ⟨e,hB⟩ | ⟨b,q1,e,b1,b2,b3⟩
      ·refine .inl ⟨e,?_⟩
       unfold Cm.spare
       rw [List.find?_eq_none]
       intro b hb
       obtain ⟨x,hx⟩:=R'.has hb
       obtain ⟨j,hj⟩:=List.getElem?_of_mem hx
       have:=hB j _ (List.getElem?_eq_some_iff.1 hj).1 hj
       simp at this;simp [this]
      ·refine .inr ⟨b,q1,e,b1,spare_eq R'.I (R'.mem (List.mem_of_getElem? b1)) b2 fun b' hb' hc'=>?_⟩
       obtain ⟨x,hx⟩:=R'.has hb'
       obtain ⟨j,hj⟩:=List.getElem?_of_mem hx
       exact b3 j _ (List.getElem?_eq_some_iff.1 hj).1 hj hc'
     clear B
     rcases sp with ⟨rfl,hs⟩ | ⟨b,q,rfl,hq,hs⟩
     ·have ht:=tabs c hc
      simp -implicitDefEqProofs (disch:=first|exact dz _|fail) only [↓AM.R0,AM.R1,AM.R2,reduceAdd,reduceLeDiff,reduceEqDiff,reduceToNat,Nat.reduceLT,↓reduceIte,reduceEq,Int.reduceLT,reduceLE,y0,y1,y2,y8]
      refine AM.callI_of (rPages hc) ?_
      rintro r h3 ⟨f3,rfl⟩
      simp -implicitDefEqProofs (disch:=first|exact dz _|fail) only [↓AM.R0,AM.R1,AM.R2,reduceAdd,reduceLeDiff,reduceEqDiff,reduceToNat,Nat.reduceLT,↓reduceIte,reduceEq,Int.reduceLT,reduceLE,y0,y1,y2,y8]
      refine AM.callI_of (rWords hc) ?_
      rintro r h4 ⟨f4,rfl⟩
      simp -implicitDefEqProofs (disch:=first|exact dz _|fail) only [↓AM.R0,AM.R1,AM.R2,reduceAdd,reduceLeDiff,reduceEqDiff,reduceToNat,Nat.reduceLT,↓reduceIte,reduceEq,Int.reduceLT,reduceLE,y0,y1,y2,y8]
      refine AM.callI_of (rCells hc) ?_
      rintro r h5 ⟨f5,rfl⟩
      have R5:=((R2.keep f3).keep f4).keep f5
      simp -implicitDefEqProofs (disch:=first|exact dz _|fail) only [↓AM.R0,AM.R1,AM.R2,reduceAdd,reduceLeDiff,reduceEqDiff,reduceToNat,Nat.reduceLT,↓reduceIte,reduceEq,Int.reduceLT,reduceLE,y0,y1,y2,y8]
      refine AM.callI_of (rMake R5 (pageT.getD c 0:Nat) (c:Int) (sizeT.getD c 0) (cellT.getD c 0) (by omega) (by omega) (by omega) fun a _ hfa=>?_) ?_
      ·rw [Int.toNat_natCast] at hfa ⊢
       refine ⟨R5.I.ins (by show 1≤pageT.getD c 0;omega) hfa (.inr (.inr ⟨c,hc,rfl,rfl,Nat.two_pow_pos _⟩)) rfl,?_,?_⟩
       ·show (if (c:Int)<0 then _ else cellT.getD (c:Int).toNat 0)=_
        rw [if_neg (by omega),Int.toNat_natCast]
       ·unfold Blk.rws Blk.ws
        show (if (c:Int)=-2 then 1 else if (c:Int)<0 then _ else sizeT.getD (c:Int).toNat 0)=_
        rw [if_neg (by omega),if_neg (by omega),Int.toNat_natCast]
      ·rw [Int.toNat_natCast]
       rintro r h6 ⟨g6,F6,A⟩
       have Fr6:=((((Fr.tmp F).tmp f3).tmp f4).tmp f5).trans F6
       rcases A with ⟨z,_⟩ | ⟨_,z1,R6,rfl⟩ | ⟨a,_,z1,z2,ix,R6,rfl⟩
       ·omega
       ·simp -implicitDefEqProofs (disch:=first|exact dz _|fail) only [↓AM.R0,AM.R1,AM.R2,reduceAdd,reduceLeDiff,reduceEqDiff,reduceToNat,Nat.reduceLT,↓reduceIte,reduceEq,Int.reduceLT,reduceLE,y0,y1,y2,y8,res2]
        subst hQ
        have e0:m.pick p c=(none,m'):=by rw [hpk];unfold Cm.pick2;rw [hs];simp only [z1]
        rw [e0]
        exact ⟨g6,rb',Fr6,R6,.inl ⟨rfl,rfl⟩⟩
       ·have g1:=R6.obj
        have lc6:g6.c<h6.n:=R6.k0 _ (by rw [R6.kc];decide)
        have hil:(rb'++[((⟨a,pageT.getD c 0,c,0,none⟩:Blk),ix)])[rb'.length]?=some ((⟨a,pageT.getD c 0,c,0,none⟩:Blk),ix):=by simp
        obtain ⟨ib,gb,ob,vb,s1,s2,s3,s4,s5,s6,s7⟩:=R6.setW hil
        rw [F6.c] at g1 lc6
        simp -implicitDefEqProofs (disch:=first|exact dz _|fail) only [↓AM.R0,AM.R1,AM.R2,reduceAdd,reduceLeDiff,reduceEqDiff,reduceToNat,Nat.reduceLT,↓reduceIte,reduceEq,Int.reduceLT,reduceLE,y0,y1,y2,y8,res2,g1,s1,s2,s3,s4]
        subst hQ
        have e0:m.pick p c=(some a,(m'.ins ⟨a,pageT.getD c 0,c,0,none⟩).upd a (Blk.setW (some p))):=by rw [hpk];unfold Cm.pick2;rw [hs];simp only [z1]
        rw [e0]
        have I2:=R6.I.setW (b:=⟨a,pageT.getD c 0,c,0,none⟩) (mem_insB.2 (.inl rfl)) (w:=some p) (c:=c) rfl fun p' e=>by
         cases e
         refine ⟨by show p<m'.pr;omega,held_none.2 fun x hx=>?_⟩
         rcases mem_insB.1 hx with rfl | z
         ·rintro ⟨_,z⟩;cases z
         ·exact held_none.1 hhn x z
        exact ⟨g6,_,Fr6.set (fun y=>by rw [←Fr6.K _ y,s6];decide) _,s7 (some p) I2,.inr ⟨a,rb'.length,_,rfl,List.getElem?_set_self (by simp),rfl,rfl⟩⟩
     ·have d1:decide (((b:Nat):Int)<0)=false:=decide_eq_false (by omega)
      obtain ⟨ib,gb,ob,vb,s1,s2,s3,s4,s5,s6,s7⟩:=R2.setW hq
      simp -implicitDefEqProofs (disch:=first|exact dz _|fail) only [↓AM.R0,AM.R1,AM.R2,reduceAdd,reduceLeDiff,reduceEqDiff,reduceToNat,Nat.reduceLT,↓reduceIte,reduceEq,Int.reduceLT,reduceLE,y0,y1,y2,y8,d1,g1,s1,s2,s3,s4]
      subst hQ
      obtain ⟨q1,q2,_,_⟩:=spare_mem hs
      have e0:m.pick p c=(some q.1.a,m'.upd q.1.a (Blk.setW (some p))):=by rw [hpk];unfold Cm.pick2;rw [hs]
      rw [e0]
      have I2:=R2.I.setW q1 (w:=some p) q2 fun p' e=>by
       cases e
       exact ⟨by omega,hhn⟩
      exact ⟨g,_,(Fr.tmp F).set (fun y=>by rw [s6];decide) _,s7 (some p) I2,.inr ⟨q.1.a,b,_,rfl,List.getElem?_set_self (List.getElem?_eq_some_iff.1 hq).1,rfl,rfl⟩⟩
end Go.Proofs.YthillgheddpmhaaDoor.Pg
namespace Go.Proofs.YthillgheddpmhaaDoor.Pg
open Go Go.AM Go.Proofs.YthillgheddpmhaaDoor.AmGJ
open Nat (reduceAdd reduceLeDiff reduceEqDiff)
open Int (reduceToNat reduceEq reduceLE)
attribute [local irreducible] pc
variable {h h':AHeap} {g g':RI} {rb:List (Blk×Nat)} {m:Cm}
set_option maxHeartbeats 16000000 in
theorem rAllocC (R:RC h g rb m) (p w:Int):CallP AP 74 [.ptr g.c 0 0,.int .i64 p,.int .i64 w] h fun r h'=>∃ g' rb',RFr h h' g g'∧RC h' g' rb' (m.alloc p w).2∧r=res2 (m.alloc p w).1.1 (m.alloc p w).1.2:=by
 refine callP (rfl:Tr.get AP 74=some A74) ?_
 generalize hQ:(fun (r:AVal) (h':AHeap)=>_)=Q
 have g1:=R.obj
 have lc:g.c<h.n:=R.k0 _ (by rw [R.kc];decide)
 by_cases hbad:p<0∨(m.pr:Int)≤p∨w<1
 ·have ha:m.alloc p w=((0,1),m):=by unfold Cm.alloc;rw [if_pos hbad]
  rw [ha] at hQ
  rcases Int.lt_or_le p 0 with c | c
  ·have d1:decide (p<0)=true:=decide_eq_true c
   simp -implicitDefEqProofs (disch:=first|exact dz _|fail) only [↓AM.R0,AM.R1,AM.R2,reduceAdd,reduceLeDiff,reduceEqDiff,reduceToNat,Nat.reduceLT,↓reduceIte,reduceEq,Int.reduceLT,reduceLE,d1]
   subst hQ;exact ⟨g,rb,RFr.refl h g,R,rfl⟩
  ·have d1:decide (p<0)=false:=decide_eq_false (by omega)
   rcases Int.lt_or_le p m.pr with c2 | c2
   ·have d2:decide ((m.pr:Int)≤p)=false:=decide_eq_false (by omega)
    have d3:decide (w<1)=true:=decide_eq_true (by omega)
    simp -implicitDefEqProofs (disch:=first|exact dz _|fail) only [↓AM.R0,AM.R1,AM.R2,reduceAdd,reduceLeDiff,reduceEqDiff,reduceToNat,Nat.reduceLT,↓reduceIte,reduceEq,Int.reduceLT,reduceLE,d1,d2,d3,g1]
    subst hQ;exact ⟨g,rb,RFr.refl h g,R,rfl⟩
   ·have d2:decide ((m.pr:Int)≤p)=true:=decide_eq_true c2
    simp -implicitDefEqProofs (disch:=first|exact dz _|fail) only [↓AM.R0,AM.R1,AM.R2,reduceAdd,reduceLeDiff,reduceEqDiff,reduceToNat,Nat.reduceLT,↓reduceIte,reduceEq,Int.reduceLT,reduceLE,d1,d2,g1]
    subst hQ;exact ⟨g,rb,RFr.refl h g,R,rfl⟩
 have d1:decide (p<0)=false:=decide_eq_false (by omega)
 have d2:decide ((m.pr:Int)≤p)=false:=decide_eq_false (by omega)
 have d3:decide (w<1)=false:=decide_eq_false (by omega)
 by_cases h1024:1024<w
 ·have ha:m.alloc p w=((0,2),m):=by unfold Cm.alloc;rw [if_neg hbad,if_pos h1024]
  rw [ha] at hQ
  have d4:decide ((1024:Int)<w)=true:=decide_eq_true h1024
  simp -implicitDefEqProofs (disch:=first|exact dz _|fail) only [↓AM.R0,AM.R1,AM.R2,reduceAdd,reduceLeDiff,reduceEqDiff,reduceToNat,Nat.reduceLT,↓reduceIte,reduceEq,Int.reduceLT,reduceLE,d1,d2,d3,d4,g1]
  subst hQ;exact ⟨g,rb,RFr.refl h g,R,rfl⟩
 have d4:decide ((1024:Int)<w)=false:=decide_eq_false h1024
 obtain ⟨p,rfl⟩:∃ x:Nat,p=x:=⟨p.toNat,by omega⟩
 obtain ⟨w,rfl⟩:∃ x:Nat,w=x:=⟨w.toNat,by omega⟩
 simp -implicitDefEqProofs (disch:=first|exact dz _|fail) only [↓AM.R0,AM.R1,AM.R2,reduceAdd,reduceLeDiff,reduceEqDiff,reduceToNat,Nat.reduceLT,↓reduceIte,reduceEq,Int.reduceLT,reduceLE,d1,d2,d3,d4,g1]
 refine AM.callI_of (rDocOf (w:=w) (by omega) (by omega)) ?_
 rintro r h2 ⟨f2,rfl⟩
 have R2:=R.keep f2
 have Fr2:=(RFr.refl h g).tmp f2
 have hlen:=R.len
 by_cases h64:64<w
 ·rw [if_neg (by omega)]
  have ha:m.alloc p w=match m.fit ((w+63) / 64) with
   | none=>((0,3),m)
   | some a=>(((a*64:Nat),0),(m.ins ⟨a,(w+63) / 64,-1,0,none⟩).upd a (Blk.setU 1)):=by
   unfold Cm.alloc;rw [if_neg hbad,if_neg h1024,if_pos (by omega),Int.toNat_natCast];rfl
  rw [ha] at hQ
  have w1:IntKind.i64.wrap ((w:Int)+64)=((w+64:Nat):Int):=(wrap64 (by omega) (by omega)).trans (by omega)
  have w2:IntKind.i64.wrap (((w+64:Nat):Int)-1)=((w+63:Nat):Int):=(wrap64 (by omega) (by omega)).trans (by omega)
  have w3:((w+63:Nat):Int).tdiv 64=(((w+63) / 64:Nat):Int):=rfl
  have w4:IntKind.i64.wrap (((w+63) / 64:Nat):Int)=(((w+63) / 64:Nat):Int):=wrap64 (by omega) (by omega)
  have hk:1≤(w+63) / 64:=by omega
  have hk2:(w+63) / 64≤17:=by omega
  generalize (w+63) / 64=k at *
  have w5:IntKind.i64.wrap ((k:Int)*64)=((k*64:Nat):Int):=(wrap64 (by omega) (by omega)).trans (by omega)
  simp -implicitDefEqProofs (disch:=first|exact dz _|fail) only [↓AM.R0,AM.R1,AM.R2,reduceAdd,reduceLeDiff,reduceEqDiff,reduceToNat,Nat.reduceLT,↓reduceIte,reduceEq,Int.reduceLT,reduceLE,w1,w2,w3,w4,w5]
  refine AM.callI_of (rMake R2 (k:Int) (-1) (k*64) 1 (by omega) (by omega) (by omega) fun a _ hfa=>?_) ?_
  ·rw [Int.toNat_natCast] at hfa ⊢
   exact ⟨R2.I.ins (by show 1≤k;omega) hfa (.inr (.inl ⟨rfl,by show 0≤1;omega,rfl⟩)) rfl,rfl,rfl⟩
  ·rw [Int.toNat_natCast]
   rintro r h3 ⟨g3,F3,A⟩
   have Fr3:=Fr2.trans F3
   rcases A with ⟨z,_⟩ | ⟨_,z1,R3,rfl⟩ | ⟨a,_,hft,hfa,ix,R3,rfl⟩
   ·omega
   ·rw [z1] at hQ
    simp -implicitDefEqProofs (disch:=first|exact dz _|fail) only [↓AM.R0,AM.R1,AM.R2,reduceAdd,reduceLeDiff,reduceEqDiff,reduceToNat,Nat.reduceLT,↓reduceIte,reduceEq,Int.reduceLT,reduceLE,res2]
    subst hQ
    exact ⟨g3,rb,Fr3,R3,rfl⟩
   ·rw [hft] at hQ
    have hq:(rb++[((⟨a,k,-1,0,none⟩:Blk),ix)])[rb.length]?=some ((⟨a,k,-1,0,none⟩:Blk),ix):=by simp
    have hqb:=R3.mem (List.mem_of_getElem? hq)
    have I':CInv ((m.ins ⟨a,k,-1,0,none⟩).upd a (Blk.setU 1)):=R3.I.setU hqb (.inl ⟨rfl,by omega⟩)
    have ez:lowZ 0=0:=by decide
    obtain ⟨q,hqe⟩:∃ q:Blk×Nat,q=((⟨a,k,-1,0,none⟩:Blk),ix):=⟨_,rfl⟩
    have qa:q.1.a=a:=by rw [hqe]
    have qu:q.1.u=0:=by rw [hqe]
    have hcn:q.1.c≠-2:=by rw [hqe];show (-1:Int)≠-2;omega
    have qw:(q.1.u ||| 2^lowZ q.1.u)=1:=by rw [qu,ez];rfl
    have z1:lowZ q.1.u<q.1.nc:=by rw [qu,ez,hqe];show 0<1;omega
    have hfr:freeI q.1=((lowZ q.1.u:Nat):Int):=by unfold freeI;rw [if_pos ⟨0,by omega,by rw [qu];simp⟩]
    generalize hrb3:rb++[((⟨a,k,-1,0,none⟩:Blk),ix)]=rb3 at *
    rw [←hqe] at hq
    generalize hm3:m.ins ⟨a,k,-1,0,none⟩=m3 at *
    rw [←qw,←qa] at I'
    generalize hi:rb.length=i at *
    simp -implicitDefEqProofs (disch:=first|exact dz _|fail) only [↓AM.R0,AM.R1,AM.R2,reduceAdd,reduceLeDiff,reduceEqDiff,reduceToNat,Nat.reduceLT,↓reduceIte,reduceEq,Int.reduceLT,reduceLE,res2]
    have hqm:=List.mem_of_getElem? hq
    have hb:=R3.mem hqm
    have hil:=(List.getElem?_eq_some_iff.1 hq).1
    obtain ⟨hnc,hu,hr1,hr2⟩:=nc_le R3.I hb
    have hr3:=rws_le R3.I R3.n2 hb
    have hbd:=R3.I.bd hb
    have hn2:=R3.n2
    have hlen3:=R3.len
    have u64:q.1.u<18446744073709551616:=Nat.lt_of_lt_of_le hu (Nat.pow_le_pow_right (by decide) hnc)
    have g1:=R3.obj
    have lc3:g3.c<h3.n:=R3.k0 _ (by rw [R3.kc];decide)
    rw [Fr3.c] at g1 lc3
    obtain ⟨id,gn,off,vs,x1,x2,x3,x4,x5,x6,_⟩:=R3.setW hq
    simp -implicitDefEqProofs (disch:=first|exact dz _|fail) only [↓AM.R0,AM.R1,AM.R2,reduceAdd,reduceLeDiff,reduceEqDiff,reduceToNat,Nat.reduceLT,↓reduceIte,reduceEq,Int.reduceLT,reduceLE,g1,x1,x2,x3,x4,x5]
    refine AM.callI_of (rFree (b:=q.1) (i:=q.2) u64 hnc (R3.us q hqm) (R3.k0 _ (by rw [R3.ku q hqm];decide))) ?_
    rintro r h4 ⟨f4,rfl⟩
    rw [hfr]
    have R4:=R3.keep f4
    have g4:=R4.obj
    have lc4:g3.c<h4.n:=R4.k0 _ (by rw [R4.kc];decide)
    rw [Fr3.c] at g4 lc4
    obtain ⟨id4,gn4,off4,vs4,s1,s2,s3,s4,s5,s6,_⟩:=R4.setW hq
    have v4:vs4[off4+i*5+3]?=some (.sl q.2 0 0 q.1.nc 1):=rowAt s5 (k:=3) (by omega)
    have gu:=R4.us q hqm
    have lu:q.2<h4.n:=R4.k0 _ (by rw [R4.ku q hqm];decide)
    have xb:=ix1 gu (len:=q.1.nc) (i:=lowZ q.1.u) z1
    have xl:=bools_len q.1.nc q.1.u
    have z1':(lowZ q.1.u+1≤q.1.nc)=True:=eq_true z1
    have R5:=R4.setB hq (k:=lowZ q.1.u) (u:=q.1.u ||| 2^lowZ q.1.u) (x:=true) z1 (fun j _=>by
     rw [Nat.testBit_or,Nat.testBit_two_pow]
     by_cases e:j=lowZ q.1.u
     ·rw [if_pos e,decide_eq_true e.symm,Bool.or_true]
     ·rw [if_neg e,decide_eq_false (fun y=>e y.symm),Bool.or_false]) I'
    have hq5:(rb3.set i (Blk.setU (q.1.u ||| 2^lowZ q.1.u) q.1,q.2))[i]?=some (Blk.setU (q.1.u ||| 2^lowZ q.1.u) q.1,q.2):=List.getElem?_set_self hil
    have F5:=(Fr3.tmp f4).set (i:=q.2) (fun y=>by rw [←Fr3.K _ y,R3.ku q hqm];decide) (.cells 0 false ((boolsV q.1.nc q.1.u).take (lowZ q.1.u)++[.bool true]++(boolsV q.1.nc q.1.u).drop (lowZ q.1.u+1)))
    simp -implicitDefEqProofs (disch:=first|exact dz _|fail) only [↓AM.R0,AM.R1,AM.R2,reduceAdd,reduceLeDiff,reduceEqDiff,reduceToNat,Nat.reduceLT,↓reduceIte,reduceEq,Int.reduceLT,reduceLE,g4,s1,s2,s3,s4,v4,xb,gu,xl,z1']
    generalize h4.set q.2 _=h5 at *
    have g5:=R5.obj
    have lc5:g3.c<h5.n:=R5.k0 _ (by rw [R5.kc];decide)
    rw [Fr3.c] at g5 lc5
    obtain ⟨id5,gn5,off5,vs5,t1,t2,t3,t4,t5,t6,_⟩:=R5.setW hq5
    have v5:vs5[off5+i*5]?=some (.int .i64 (q.1.a:Nat)):=rowAt t5 (k:=0) (by omega)
    have v6:vs5[off5+i*5+2]?=some (.int .i64 (q.1.rws:Nat)):=rowAt t5 (k:=2) (by omega)
    have hkr:lowZ q.1.u*q.1.rws≤64*262144:=Nat.mul_le_mul (by omega) hr3
    have wA:IntKind.i64.wrap (((q.1.a:Nat):Int)*64)=((q.1.a*64:Nat):Int):=(wrap64 (by omega) (by omega)).trans (by omega)
    have wB:IntKind.i64.wrap (((lowZ q.1.u:Nat):Int)*((q.1.rws:Nat):Int))=((lowZ q.1.u*q.1.rws:Nat):Int):=by rw [←Int.natCast_mul];exact wrap64 (by omega) (by omega)
    have wC:IntKind.i64.wrap (((q.1.a*64:Nat):Int)+((lowZ q.1.u*q.1.rws:Nat):Int))=((q.1.a*64+lowZ q.1.u*q.1.rws:Nat):Int):=(wrap64 (by omega) (by omega)).trans (by omega)
    simp -implicitDefEqProofs (disch:=first|exact dz _|fail) only [↓AM.R0,AM.R1,AM.R2,reduceAdd,reduceLeDiff,reduceEqDiff,reduceToNat,Nat.reduceLT,↓reduceIte,reduceEq,Int.reduceLT,reduceLE,g5,t1,t2,t3,t4,v5,v6,wA,wB,wC]
    subst hQ
    rw [hr2 hcn]
    rw [qa,qw] at R5
    refine ⟨g3,_,F5,by show RC _ _ _ ((m.ins ⟨a,k,-1,0,none⟩).upd a (Blk.setU 1));rw [hm3];exact R5,?_⟩
    rw [qu,ez,qa,Nat.zero_mul];rfl
 ·have hp:p<m.pr:=by omega
  rw [if_pos (by omega)]
  obtain ⟨hc16,_⟩:=cls_ok w (by omega) (by omega)
  have ha:m.alloc p w=match m.pick p (clsOf w) with
   | (none,m')=>((0,3),m')
   | (some a,m')=>match m'.get a with
    | some b=>(((a*64+lowZ b.u*b.ws:Nat),0),m'.upd a (Blk.setU (b.u ||| 2^lowZ b.u)))
    | none=>((0,0),m'):=by
   unfold Cm.alloc;rw [if_neg hbad,if_neg h1024,if_neg (by omega),Int.toNat_natCast,Int.toNat_natCast];rfl
  rw [ha] at hQ
  have hpi:=pick_inv R2.I hp hc16
  simp -implicitDefEqProofs (disch:=first|exact dz _|fail) only [↓AM.R0,AM.R1,AM.R2,reduceAdd,reduceLeDiff,reduceEqDiff,reduceToNat,Nat.reduceLT,↓reduceIte,reduceEq,Int.reduceLT,reduceLE]
  refine AM.callI_of (rPick R2 hp hc16) ?_
  rintro r h3 ⟨g3,rb3,F3,R3,⟨hn,rfl⟩ | ⟨a,i,q,hs,hq,qa,rfl⟩⟩
  ·have e:m.pick p (clsOf w)=(none,(m.pick p (clsOf w)).2):=by rw [←hn]
   rw [e] at hQ
   simp -implicitDefEqProofs (disch:=first|exact dz _|fail) only [↓AM.R0,AM.R1,AM.R2,reduceAdd,reduceLeDiff,reduceEqDiff,reduceToNat,Nat.reduceLT,↓reduceIte,reduceEq,Int.reduceLT,reduceLE,res2]
   subst hQ
   exact ⟨g3,rb3,Fr2.trans F3,R3,rfl⟩
  ·have e:m.pick p (clsOf w)=(some a,(m.pick p (clsOf w)).2):=by rw [←hs]
   obtain ⟨b,hbm,hba,hbc,hbw,hbf⟩:=hpi.2 a hs
   rw [e] at hQ
   generalize (m.pick p (clsOf w)).2=m3 at *
   have Fr3:=Fr2.trans F3
   obtain rfl:b=q.1:=R3.I.same hbm (R3.mem (List.mem_of_getElem? hq)) (hba.trans qa.symm)
   have hget:=R3.I.get hbm
   rw [hba] at hget
   simp only [hget] at hQ
   have hcn:q.1.c≠-2:=by omega
   obtain ⟨d,hd1,hd2,hd3,hd4⟩:=R3.I.cls hbm (by omega)
   obtain ⟨hfr,z1,z2⟩:freeI q.1=((lowZ q.1.u:Nat):Int)∧lowZ q.1.u<q.1.nc∧q.1.u.testBit (lowZ q.1.u)=false:=by
    rcases free_full R3.I hbm hd1 hd2 with ⟨z,_⟩ | ⟨_,z⟩
    ·rw [hbf] at z;cases z
    ·exact z
   have hnn:q.1.nc=cellT.getD d 0:=by unfold Blk.nc;rw [if_neg (by omega),hd2,Int.toNat_natCast]
   have hu2:q.1.u ||| 2^lowZ q.1.u<2^cellT.getD d 0:=Nat.or_lt_two_pow hd4 (Nat.pow_lt_pow_right (by decide) (by omega))
   have I':CInv (m3.upd q.1.a (Blk.setU (q.1.u ||| 2^lowZ q.1.u))):=R3.I.setU hbm (.inr ⟨d,hd1,hd2,hu2⟩)
   simp -implicitDefEqProofs (disch:=first|exact dz _|fail) only [↓AM.R0,AM.R1,AM.R2,reduceAdd,reduceLeDiff,reduceEqDiff,reduceToNat,Nat.reduceLT,↓reduceIte,reduceEq,Int.reduceLT,reduceLE,res2]
   have hqm:=List.mem_of_getElem? hq
   have hb:=R3.mem hqm
   have hil:=(List.getElem?_eq_some_iff.1 hq).1
   obtain ⟨hnc,hu,hr1,hr2⟩:=nc_le R3.I hb
   have hr3:=rws_le R3.I R3.n2 hb
   have hbd:=R3.I.bd hb
   have hn2:=R3.n2
   have hlen3:=R3.len
   have u64:q.1.u<18446744073709551616:=Nat.lt_of_lt_of_le hu (Nat.pow_le_pow_right (by decide) hnc)
   have g1:=R3.obj
   have lc3:g3.c<h3.n:=R3.k0 _ (by rw [R3.kc];decide)
   rw [Fr3.c] at g1 lc3
   obtain ⟨id,gn,off,vs,x1,x2,x3,x4,x5,x6,_⟩:=R3.setW hq
   simp -implicitDefEqProofs (disch:=first|exact dz _|fail) only [↓AM.R0,AM.R1,AM.R2,reduceAdd,reduceLeDiff,reduceEqDiff,reduceToNat,Nat.reduceLT,↓reduceIte,reduceEq,Int.reduceLT,reduceLE,g1,x1,x2,x3,x4,x5]
   refine AM.callI_of (rFree (b:=q.1) (i:=q.2) u64 hnc (R3.us q hqm) (R3.k0 _ (by rw [R3.ku q hqm];decide))) ?_
   rintro r h4 ⟨f4,rfl⟩
   rw [hfr]
   have R4:=R3.keep f4
   have g4:=R4.obj
   have lc4:g3.c<h4.n:=R4.k0 _ (by rw [R4.kc];decide)
   rw [Fr3.c] at g4 lc4
   obtain ⟨id4,gn4,off4,vs4,s1,s2,s3,s4,s5,s6,_⟩:=R4.setW hq
   have v4:vs4[off4+i*5+3]?=some (.sl q.2 0 0 q.1.nc 1):=rowAt s5 (k:=3) (by omega)
   have gu:=R4.us q hqm
   have lu:q.2<h4.n:=R4.k0 _ (by rw [R4.ku q hqm];decide)
   have xb:=ix1 gu (len:=q.1.nc) (i:=lowZ q.1.u) z1
   have xl:=bools_len q.1.nc q.1.u
   have z1':(lowZ q.1.u+1≤q.1.nc)=True:=eq_true z1
   have R5:=R4.setB hq (k:=lowZ q.1.u) (u:=q.1.u ||| 2^lowZ q.1.u) (x:=true) z1 (fun j _=>by
    rw [Nat.testBit_or,Nat.testBit_two_pow]
    by_cases e:j=lowZ q.1.u
    ·rw [if_pos e,decide_eq_true e.symm,Bool.or_true]
    ·rw [if_neg e,decide_eq_false (fun y=>e y.symm),Bool.or_false]) I'
   have hq5:(rb3.set i (Blk.setU (q.1.u ||| 2^lowZ q.1.u) q.1,q.2))[i]?=some (Blk.setU (q.1.u ||| 2^lowZ q.1.u) q.1,q.2):=List.getElem?_set_self hil
   have F5:=(Fr3.tmp f4).set (i:=q.2) (fun y=>by rw [←Fr3.K _ y,R3.ku q hqm];decide) (.cells 0 false ((boolsV q.1.nc q.1.u).take (lowZ q.1.u)++[.bool true]++(boolsV q.1.nc q.1.u).drop (lowZ q.1.u+1)))
   simp -implicitDefEqProofs (disch:=first|exact dz _|fail) only [↓AM.R0,AM.R1,AM.R2,reduceAdd,reduceLeDiff,reduceEqDiff,reduceToNat,Nat.reduceLT,↓reduceIte,reduceEq,Int.reduceLT,reduceLE,g4,s1,s2,s3,s4,v4,xb,gu,xl,z1']
   generalize h4.set q.2 _=h5 at *
   have g5:=R5.obj
   have lc5:g3.c<h5.n:=R5.k0 _ (by rw [R5.kc];decide)
   rw [Fr3.c] at g5 lc5
   obtain ⟨id5,gn5,off5,vs5,t1,t2,t3,t4,t5,t6,_⟩:=R5.setW hq5
   have v5:vs5[off5+i*5]?=some (.int .i64 (q.1.a:Nat)):=rowAt t5 (k:=0) (by omega)
   have v6:vs5[off5+i*5+2]?=some (.int .i64 (q.1.rws:Nat)):=rowAt t5 (k:=2) (by omega)
   have hkr:lowZ q.1.u*q.1.rws≤64*262144:=Nat.mul_le_mul (by omega) hr3
   have wA:IntKind.i64.wrap (((q.1.a:Nat):Int)*64)=((q.1.a*64:Nat):Int):=(wrap64 (by omega) (by omega)).trans (by omega)
   have wB:IntKind.i64.wrap (((lowZ q.1.u:Nat):Int)*((q.1.rws:Nat):Int))=((lowZ q.1.u*q.1.rws:Nat):Int):=by rw [←Int.natCast_mul];exact wrap64 (by omega) (by omega)
   have wC:IntKind.i64.wrap (((q.1.a*64:Nat):Int)+((lowZ q.1.u*q.1.rws:Nat):Int))=((q.1.a*64+lowZ q.1.u*q.1.rws:Nat):Int):=(wrap64 (by omega) (by omega)).trans (by omega)
   simp -implicitDefEqProofs (disch:=first|exact dz _|fail) only [↓AM.R0,AM.R1,AM.R2,reduceAdd,reduceLeDiff,reduceEqDiff,reduceToNat,Nat.reduceLT,↓reduceIte,reduceEq,Int.reduceLT,reduceLE,g5,t1,t2,t3,t4,v5,v6,wA,wB,wC]
   subst hQ
   rw [hr2 hcn]
   refine ⟨g3,_,F5,by rw [qa] at R5;exact R5,?_⟩
   rw [qa];rfl
end Go.Proofs.YthillgheddpmhaaDoor.Pg
namespace Go.Proofs.YthillgheddpmhaaDoor.Pg
open Go Go.AM Go.Proofs.YthillgheddpmhaaDoor.AmGJ
open Nat (reduceAdd reduceLeDiff reduceEqDiff)
open Int (reduceToNat reduceEq reduceLE)
attribute [local irreducible] pc
variable {h h':AHeap} {g g':RI} {rb:List (Blk×Nat)} {m:Cm}
def Blk.keep (b:Blk):Bool:=decide (b.c=-2)||(decide (b.u≠0)||b.w.isSome)
def Cm.keep (m:Cm):Cm:={ m with bl:=m.bl.filter Blk.keep }
def Cm.remN (m:Cm) (l:List Nat):Cm:=l.foldl Cm.rem m
theorem remN_snoc (m:Cm) (l:List Nat) (a:Nat):m.remN (l++[a])=(m.remN l).rem a:=by unfold Cm.remN;rw [List.foldl_append];rfl
theorem remN_n (l:List Nat):∀ m:Cm,(m.remN l).n=m.n∧(m.remN l).pr=m.pr∧∀ b,b∈(m.remN l).bl↔b∈m.bl∧b.a ∉ l:=by
 induction l with
 | nil=>exact fun m=>⟨rfl,rfl,fun b=>by simp [Cm.remN]⟩
 | cons a l ih =>
  intro m
  obtain ⟨h1,h2,h3⟩:=ih (m.rem a)
  refine ⟨h1,h2,fun b=>?_⟩
  have e:m.remN (a::l)=(m.rem a).remN l:=rfl
  rw [e,h3 b]
  unfold Cm.rem
  simp only [List.mem_filter,bne_iff_ne,ne_eq,List.mem_cons,not_or,and_assoc]
theorem remN_bl (l:List Nat):∀ m:Cm,(m.remN l).bl=m.bl.filter fun b=>!l.contains b.a:=by
 induction l with
 | nil=>intro m;exact (List.filter_eq_self.2 fun _ _=>rfl).symm
 | cons a l ih =>
  intro m
  have e:m.remN (a::l)=(m.rem a).remN l:=rfl
  rw [e,ih]
  unfold Cm.rem
  simp only [List.filter_filter]
  refine List.filter_congr fun b _=>?_
  by_cases h1:b.a=a<;>simp [h1,Bool.and_comm]
theorem rem_f (I:CInv m) {b:Blk} (hb:b∈m.bl):(m.rem b.a).f=fun q=>if b.a≤q∧q<b.a+b.k then true else m.f q:=by
 have hs:b.sp∈m.L:=List.mem_map.2 ⟨b,hb,rfl⟩
 have hS:=I.S.rem hs (g:=fun q=>if b.a≤q∧q<b.a+b.k then true else m.f q) fun q=>rfl
 have hbd:=I.bd hb
 rw [←rem_sp] at hS
 refine (SInv.f_eq (m:=m.rem b.a) hS fun q hq=>?_).symm
 have hq':m.n≤q:=hq
 show (if _ then true else m.f q)=false
 rw [if_neg (by omega),f_out m hq']
theorem rem_L0 (m:Cm) (a:Nat):(m.rem a).L0=remF m.L0 a:=by
 simp only [Cm.L0,Cm.rem,remF,List.filter_map]
 rfl
def anyB (u x:Nat):Bool:=(List.range x).any fun j=>u.testBit j
theorem anyB_succ (u x:Nat):anyB u (x+1)=(anyB u x||u.testBit x):=by unfold anyB;rw [List.range_succ,List.any_append];simp
theorem anyB_all {u n:Nat} (h:u<2^n):anyB u n=decide (u≠0):=by
 by_cases e:u=0
 ·subst e
  rw [decide_eq_false (by simp)]
  unfold anyB;rw [List.any_eq_false];intro j _;simp
 ·rw [decide_eq_true e]
  unfold anyB
  rw [List.any_eq_true]
  refine Decidable.byContradiction fun hno=>e (Nat.eq_of_testBit_eq fun j=>?_)
  rw [Nat.zero_testBit]
  rcases Nat.lt_or_ge j n with c | c
  ·cases hj:u.testBit j with
   | false=>rfl
   | true=>exact absurd ⟨j,List.mem_range.2 c,hj⟩ hno
  ·exact Nat.testBit_lt_two_pow (Nat.lt_of_lt_of_le h (Nat.pow_le_pow_right (by decide) c))
theorem hold_nn {w:Option Nat}:decide ((0:Int)≤holdI w)=w.isSome:=by
 cases w with
 | none=>rfl
 | some p=>exact decide_eq_true (by show (0:Int)≤(p:Int);omega)
theorem keep_perm {rb:List (Blk×Nat)} {l:List Blk} (pm:(rb.map (·.1)).Perm l):((rb.filter fun p=>p.1.keep).map (·.1)).Perm (l.filter Blk.keep):=by
 have:=pm.filter Blk.keep
 rw [List.filter_map] at this
 exact this
def goneN (rb:List (Blk×Nat)) (i:Nat):List Nat:=((rb.take i).filter fun p=>!p.1.keep).map (·.1.a)
theorem goneN_succ {rb:List (Blk×Nat)} {i:Nat} {p:Blk×Nat} (hp:rb[i]?=some p):goneN rb (i+1)=if p.1.keep then goneN rb i else goneN rb i++[p.1.a]:=by
 unfold goneN
 rw [take_snoc hp,List.filter_append,List.map_append]
 cases e:p.1.keep<;>simp [e]
theorem keepN_succ {rb:List (Blk×Nat)} {i:Nat} {p:Blk×Nat} (hp:rb[i]?=some p):(rb.take (i+1)).filter (fun p=>p.1.keep)=if p.1.keep then (rb.take i).filter (fun p=>p.1.keep)++[p] else (rb.take i).filter (fun p=>p.1.keep):=by
 rw [take_snoc hp,List.filter_append]
 cases e:p.1.keep<;>simp [e]
theorem gone_all (R:RC h g rb m):m.remN (goneN rb rb.length)=m.keep:=by
 have h1:=remN_n (goneN rb rb.length) m
 have h2:=remN_bl (goneN rb rb.length) m
 have h3:(m.remN (goneN rb rb.length)).bl=m.keep.bl:=by
  rw [h2]
  refine List.filter_congr fun b hb=>?_
  unfold goneN
  rw [List.take_length]
  obtain ⟨x,hx⟩:=R.has hb
  cases e:b.keep with
  | false =>
   rw [Bool.not_eq_false']
   rw [List.contains_iff_mem]
   exact List.mem_map.2 ⟨(b,x),List.mem_filter.2 ⟨hx,by simp [e]⟩,rfl⟩
  | true =>
   rw [Bool.not_eq_true',←Bool.not_eq_true,List.contains_iff_mem]
   intro hm
   obtain ⟨q,hq,qe⟩:=List.mem_map.1 hm
   obtain ⟨q1,q2⟩:=List.mem_filter.1 hq
   have:=R.I.same (R.mem q1) hb qe
   rw [this,e] at q2;cases q2
 cases e:m.remN (goneN rb rb.length) with
 | mk n pr bl =>
  rw [e] at h1 h3
  obtain ⟨e1,e2,_⟩:=h1
  obtain rfl:n=m.n:=e1
  obtain rfl:pr=m.pr:=e2
  obtain rfl:bl=m.keep.bl:=h3
  rfl
structure DropA (h h':AHeap) (g:RI) (rb:List (Blk×Nat)) (m:Cm) (i:Nat) (vt:AVal) (Gt:List Nat) (v:AVal) (Gk:List Nat):Prop where
 I:CInv (m.remN (goneN rb i))
 n:h.n≤h'.n
 gg:h'.g=h.g
 get:∀ j,j<h.n→g.K j≠4→h'.get j=h.get j
 T:RTab h' g.u g.r g.b (m.remN (goneN rb i)).n (m.remN (goneN rb i)).f (m.remN (goneN rb i)).L0 vt Gt
 gt:∀ j,j∈Gt→j∈[g.u,g.r,g.b]++g.Gt∨h.n≤j
 so:SlOf h' 5 encRB v ((rb.take i).filter fun p=>p.1.keep) Gk
 gk:∀ j,j∈Gk→h.n≤j∧j ∉ [g.u,g.r,g.b]++Gt
theorem DropA.tmp {h2:AHeap} {i:Nat} {vt v:AVal} {Gt Gk A:List Nat} (D:DropA h h' g rb m i vt Gt v Gk) (F:HFrame h' h2 [] A):DropA h h2 g rb m i vt Gt v Gk :=
 ⟨D.I,Nat.le_trans D.n F.n,F.g.trans D.gg,fun j hj k=>(F.get j (Nat.lt_of_lt_of_le hj D.n) (by simp)).trans (D.get j hj k),D.T.keep F,D.gt,D.so.frame F.n fun j hj=>F.get j (D.so.lt j hj) (by simp),D.gk⟩
set_option maxHeartbeats 16000000 in
theorem rDropC (R:RC h g rb m):CallP AP 95 [.ptr g.c 0 0] h fun r h'=>∃ g',RFr h h' g g'∧RC h' g' (rb.filter fun p=>p.1.keep) m.keep:=by
 refine callP (rfl:Tr.get AP 95=some A95) ?_
 generalize hQ:(fun (r:AVal) (h':AHeap)=>_)=Q
 have hlen:=R.len
 have lch:g.c<h.n:=R.k0 _ (by rw [R.kc];decide)
 simp -implicitDefEqProofs (disch:=first|exact dz _|fail) only [↓AM.R0,AM.R1,AM.R2,reduceAdd,reduceLeDiff,reduceEqDiff,reduceToNat,Nat.reduceLT,↓reduceIte,reduceEq,Int.reduceLT,reduceLE]
 refine AM.loopI_of (fun k e h'=>∃ (i:Nat) (vt:AVal) (Gt:List Nat) (v:AVal) (Gk:List Nat),k+i=rb.length∧DropA h h' g rb m i vt Gt v Gk∧e.val 0=.ptr g.c 0 0∧e.val 2=v∧e.val 3=.int .i64 (i:Int)) rb.length ?_ ?_
 ·refine ⟨0,g.vt,g.Gt,.nils,[],by omega,⟨R.I,Nat.le_refl _,rfl,fun _ _ _=>rfl,R.T,fun j hj=>.inl (List.mem_append_right _ hj),SlOf.nil,by simp⟩,?_,?_,?_⟩<;>(simp -implicitDefEqProofs (disch:=first|exact dz _|fail) only [↓AM.R0,AM.R1,AM.R2,reduceAdd,reduceLeDiff,reduceEqDiff,reduceToNat,Nat.reduceLT,↓reduceIte,reduceEq,Int.reduceLT,reduceLE])<;>rfl
 ·rintro k e h' ⟨i,vt,Gt,v,Gk,hk,D,y0,y2,y3⟩
  have g1:h'.get g.c=.cells 0 false [.ptr g.u 0 0,g.v,.int .i64 m.pr]:=(D.get g.c lch (by rw [R.kc];decide)).trans R.obj
  have nn:=D.n
  have lc:g.c<h'.n:=by omega
  have so':=R.so.frame D.n fun j hj=>D.get j (R.k0 j (by rw [R.kG j hj];decide)) (by rw [R.kG j hj];decide)
  simp -implicitDefEqProofs (disch:=first|exact dz _|fail) only [↓AM.R0,AM.R1,AM.R2,reduceAdd,reduceLeDiff,reduceEqDiff,reduceToNat,Nat.reduceLT,↓reduceIte,reduceEq,Int.reduceLT,reduceLE,y0,y3,g1,so'.len]
  refine AM.cI_bool (fun hc=>?_) (fun hc=>?_)
  ·simp only [decide_eq_true_eq] at hc
   obtain ⟨p,hp⟩:∃ p,rb[i]?=some p:=⟨_,List.getElem?_eq_getElem (by omega)⟩
   have hpm:=List.mem_of_getElem? hp
   have hb:=R.mem hpm
   obtain ⟨hnc,hu,hr1,hr2⟩:=nc_le R.I hb
   obtain ⟨id,gn,off,vs,ro,x1,x2,x3,x4,x5⟩:=so'.rd.ix (fun _=>rfl) hp .i64
   have hx4:off+5≤vs.length:=x4
   have fq:=((HFrame.refl (h:=h') (F:=[]) (by simp)).pushTmp (.cells 0 false z5)).setTmp (i:=h'.n) (Nat.le_refl _) (.cells 0 false (encRB p))
   have gq:((h'.push (.cells 0 false z5)).set h'.n (.cells 0 false (encRB p))).get h'.n=.cells 0 false (encRB p):=AHeap.get_set_same _ _ _
   have nq:((h'.push (.cells 0 false z5)).set h'.n (.cells 0 false (encRB p))).n=h'.n+1:=by simp
   have D5:=D.tmp fq
   have lup:p.2<h.n:=R.k0 _ (by rw [R.ku p hpm];decide)
   have gu:=(D5.get p.2 lup (by rw [R.ku p hpm];decide)).trans (R.us p hpm)
   simp only [encRB] at fq gq nq D5 gu
   have w1:IntKind.i64.wrap ((i:Int)+1)=((i+1:Nat):Int):=(wrap64 (by omega) (by omega)).trans (by omega)
   have hkeep:p.1.keep=(p.1.w.isSome||decide (p.1.c=-2)||anyB p.1.u p.1.nc):=by
    unfold Blk.keep
    rw [anyB_all hu]
    cases decide (p.1.c=-2)<;>cases p.1.w.isSome<;>simp
   simp -implicitDefEqProofs (disch:=first|exact dz _|fail) only [AM.RGB,↓AM.R0,AM.R1,AM.R2,reduceAdd,reduceLeDiff,reduceEqDiff,reduceToNat,Nat.reduceLT,↓reduceIte,reduceEq,Int.reduceLT,reduceLE,y0,y3,g1,x1,x2,x4,x5,encRB]
   rw [hold_nn]
   generalize hK:(p.1.w.isSome||decide (p.1.c=-2))=K0 at *
   generalize (h'.push (.cells 0 false z5)).set h'.n (.cells 0 false [.int .i64 (p.1.a:Int),.int .i64 p.1.c,.int .i64 (p.1.rws:Int),.sl p.2 0 0 p.1.nc 1,.int .i64 (holdI p.1.w)])=h5 at *
   have l5:h'.n<h5.n:=by omega
   have lu5:p.2<h5.n:=by omega
   refine AM.loopI_of (fun k e hh=>∃ x:Nat,k+x=p.1.nc∧hh=h5∧e.val 0=.ptr g.c 0 0∧e.val 2=v∧e.val 3=.int .i64 (i:Int)∧e.val 4=.ptr h'.n 0 0∧e.val 6=.int .i64 (x:Int)∧e.val 5=.bool (K0||anyB p.1.u x)) p.1.nc ?_ ?_
   ·refine ⟨0,by omega,rfl,?_,?_,?_,?_,?_,?_⟩<;>first | (simp -implicitDefEqProofs (disch:=first|exact dz _|fail) only [↓AM.R0,AM.R1,AM.R2,reduceAdd,reduceLeDiff,reduceEqDiff,reduceToNat,Nat.reduceLT,↓reduceIte,reduceEq,Int.reduceLT,reduceLE,y0,y2,y3];done) | (simp -implicitDefEqProofs (disch:=first|exact dz _|fail) only [↓AM.R0,AM.R1,AM.R2,reduceAdd,reduceLeDiff,reduceEqDiff,reduceToNat,Nat.reduceLT,↓reduceIte,reduceEq,Int.reduceLT,reduceLE,y0,y2,y3];rfl) | (simp -implicitDefEqProofs (disch:=first|exact dz _|fail) only [↓AM.R0,AM.R1,AM.R2,reduceAdd,reduceLeDiff,reduceEqDiff,reduceToNat,Nat.reduceLT,↓reduceIte,reduceEq,Int.reduceLT,reduceLE,y0,y2,y3];unfold anyB;simp)
   ·clear y0 y2 y3
    rintro k2 e hh ⟨x,hk2,rfl,y0,y2,y3,y4,y6,y5⟩
    simp -implicitDefEqProofs (disch:=first|exact dz _|fail) only [↓AM.R0,AM.R1,AM.R2,reduceAdd,reduceLeDiff,reduceEqDiff,reduceToNat,Nat.reduceLT,↓reduceIte,reduceEq,Int.reduceLT,reduceLE,y4,y6,gq]
    refine AM.cI_bool (fun hc2=>?_) (fun hc2=>?_)
    ·simp only [decide_eq_true_eq] at hc2
     have hx:x<p.1.nc:=by omega
     have xb:=ix1 gu (len:=p.1.nc) (i:=x) hx
     have xv:=bools_at (u:=p.1.u) hx
     have w2:IntKind.i64.wrap ((x:Int)+1)=((x+1:Nat):Int):=(wrap64 (by omega) (by omega)).trans (by omega)
     simp -implicitDefEqProofs (disch:=first|exact dz _|fail) only [AM.RGB,↓AM.R0,AM.R1,AM.R2,reduceAdd,reduceLeDiff,reduceEqDiff,reduceToNat,Nat.reduceLT,↓reduceIte,reduceEq,Int.reduceLT,reduceLE,y0,y2,y3,y4,y5,y6,gq,gu,xb,xv,w2]
     exact ⟨k2-1,by omega,x+1,by omega,rfl,by rw [anyB_succ,Bool.or_assoc]⟩
    ·simp only [decide_eq_false_iff_not] at hc2
     obtain rfl:x=p.1.nc:=by omega
     rw [←hkeep] at y5
     cases hkp:p.1.keep with
     | true =>
      rw [hkp] at y5
      simp -implicitDefEqProofs (disch:=first|exact dz _|fail) only [↓AM.R0,AM.R1,AM.R2,reduceAdd,reduceLeDiff,reduceEqDiff,reduceToNat,Nat.reduceLT,↓reduceIte,reduceEq,Int.reduceLT,reduceLE,y0,y2,y3,y4,y5,gq]
      have hfl:((rb.take i).filter fun p=>p.1.keep).length≤4096:=by
       have q1:=List.length_filter_le (fun p:Blk×Nat=>p.1.keep) (rb.take i)
       rw [List.length_take] at q1;omega
      have q0:=D5.so.rd.cells
      refine AM.opI_of (SlOf.app1 (enc:=encRB) D5.so (fun _=>rfl) (fun _=>rfl) (by omega) p fun v' h6 G6 s6 f6=>?_)
      have q6:=s6.rd.cells
      simp -implicitDefEqProofs (disch:=first|exact dz _|fail) only [↓AM.R0,AM.R1,AM.R2,reduceAdd,reduceLeDiff,reduceEqDiff,reduceToNat,Nat.reduceLT,↓reduceIte,reduceEq,Int.reduceLT,reduceLE,y0,y2,y3,w1]
      refine ⟨k-1,by omega,i+1,vt,Gt,v',G6,by omega,⟨?_,Nat.le_trans D5.n f6.n,f6.g.trans D5.gg,fun j hj kj=>?_,?_,D5.gt,?_,fun j hj=>?_⟩,rfl,rfl⟩
      ·rw [goneN_succ hp,hkp];exact D5.I
      ·exact (f6.get j (by have:=D5.n;omega) fun hm=>by have:=(D5.gk j hm).1;omega).trans (D5.get j hj kj)
      ·rw [goneN_succ hp,hkp]
       exact D5.T.keepD f6 fun j hj hm=>(D5.gk j hm).2 hj
      ·rw [keepN_succ hp,hkp];exact s6
      ·rcases f6.new j hj with z | z
       ·exact D5.gk j z
       ·exact ⟨by have:=D5.n;omega,fun hm=>by have:=D5.T.flt j hm;omega⟩
     | false =>
      rw [hkp] at y5
      have g5:=(fq.get g.c lc (by simp)).trans g1
      have lc5:g.c<hh.n:=by omega
      simp -implicitDefEqProofs (disch:=first|exact dz _|fail) only [↓AM.R0,AM.R1,AM.R2,reduceAdd,reduceLeDiff,reduceEqDiff,reduceToNat,Nat.reduceLT,↓reduceIte,reduceEq,Int.reduceLT,reduceLE,y0,y2,y3,y4,y5,gq,g5]
      have hbi:p.1∈(m.remN (goneN rb i)).bl:=((remN_n (goneN rb i) m).2.2 p.1).2 ⟨hb,fun hm=>by
       obtain ⟨q,hq,qe⟩:=List.mem_map.1 hm
       obtain ⟨j,hj⟩:=List.getElem?_of_mem (List.mem_filter.1 hq).1
       have hji:j<i:=by have:=(List.getElem?_eq_some_iff.1 hj).1;rw [List.length_take] at this;omega
       rw [List.getElem?_take_of_lt hji] at hj
       have:=rb_same R hj hp qe
       omega⟩
      refine AM.trCall_of (rsFree D5.T (p.1.a:Int)) ?_
      rintro r h6 ⟨gf,L',vt',Gt',f6,T6,A⟩
      obtain ⟨hgf,hL,rfl⟩:gf=((m.remN (goneN rb i)).rem p.1.a).f∧L'=((m.remN (goneN rb i)).rem p.1.a).L0∧r=.int .i64 0:=by
       rcases A with ⟨s,hs,hsa,hg,hL,hr⟩ | ⟨hno,_⟩
       ·obtain ⟨b,hb',rfl⟩:=List.mem_map.1 hs
        have hba:b.a=p.1.a:=by have:(b.a:Int)=(p.1.a:Int):=hsa;omega
        obtain rfl:=D5.I.same hb' hbi hba
        refine ⟨?_,by rw [rem_L0];exact hL,hr⟩
        rw [rem_f D5.I hbi]
        funext q;exact hg q
       ·exact absurd rfl (hno ⟨p.1.a,p.1.k,0⟩ (List.mem_map.2 ⟨p.1,hbi,rfl⟩))
      simp -implicitDefEqProofs (disch:=first|exact dz _|fail) only [↓AM.R0,AM.R1,AM.R2,reduceAdd,reduceLeDiff,reduceEqDiff,reduceToNat,Nat.reduceLT,↓reduceIte,reduceEq,Int.reduceLT,reduceLE,y0,y2,y3,w1,gq,g5]
      have nf:=f6.n
      refine ⟨k-1,by omega,i+1,vt',Gt',v,Gk,by omega,⟨?_,Nat.le_trans D5.n f6.n,f6.g.trans D5.gg,fun j hj kj=>?_,?_,fun j hj=>?_,?_,fun j hj=>⟨(D5.gk j hj).1,fun hm=>?_⟩⟩,rfl,rfl⟩
      ·rw [goneN_succ hp,hkp]
       show CInv (m.remN (goneN rb i++[p.1.a]))
       rw [remN_snoc];exact D5.I.rem hbi
      ·refine (f6.get j (by have:=D5.n;omega) fun hm=>?_).trans (D5.get j hj kj)
       have:j∈[g.u,g.r,g.b]++g.Gt∨h.n≤j:=by
        rcases List.mem_append.1 hm with z | z
        ·exact .inl (List.mem_append_left _ z)
        ·exact D5.gt j z
       rcases this with z | z
       ·exact kj (R.kt j z)
       ·omega
      ·rw [goneN_succ hp,hkp]
       show RTab _ _ _ _ (m.remN (goneN rb i++[p.1.a])).n (m.remN (goneN rb i++[p.1.a])).f (m.remN (goneN rb i++[p.1.a])).L0 _ _
       rw [remN_snoc,←hgf,←hL];exact T6
      ·rcases f6.new j (List.mem_append_right _ hj) with z | z
       ·rcases List.mem_append.1 z with y | y
        ·exact .inl (List.mem_append_left _ y)
        ·exact D5.gt j y
       ·exact .inr (by have:=D5.n;omega)
      ·rw [keepN_succ hp,hkp]
       exact D5.so.frame f6.n fun j hj=>f6.get j (D5.so.lt j hj) (D5.gk j hj).2
      ·rcases f6.new j hm with z | z
       ·exact (D5.gk j hj).2 z
       ·have:=D5.so.lt j hj;omega
  ·simp only [decide_eq_false_iff_not] at hc
   obtain rfl:i=rb.length:=by omega
   have q0:=D.so.rd.cells
   subst y2
   simp -implicitDefEqProofs (disch:=first|exact dz _|fail) only [↓AM.R0,AM.R1,AM.R2,reduceAdd,reduceLeDiff,reduceEqDiff,reduceToNat,Nat.reduceLT,↓reduceIte,reduceEq,Int.reduceLT,reduceLE,y0,g1,q0.1,q0.2]
   subst hQ
   have e1:=gone_all R
   have DT:=D.T
   have DI:=D.I
   have Dso:=D.so
   rw [e1] at DT DI
   rw [List.take_length] at Dso
   have f6:HFrame h' (h'.set g.c (.cells 0 false [.ptr g.u 0 0,e.val 2,.int .i64 m.pr])) [g.c] [g.c]:=HFrame.set _ _ _ (by simp) (by simpa using lc)
   obtain ⟨Fr,R'⟩:=R.mk2 (h':=h'.set g.c (.cells 0 false [.ptr g.u 0 0,e.val 2,.int .i64 m.pr])) (m':=m.keep) (rb':=rb.filter fun p=>p.1.keep) (vt:=vt) (v:=e.val 2) (Gt:=Gt) (G:=Gk) (ex:=[]) D.n D.gg
    (fun j q1 q2=>(AHeap.get_set_ne _ _ (by rintro rfl;rw [R.kc] at q2;cases q2)).trans (D.get j q1 (by omega))) DI rfl
    (DT.keepD f6 fun j hj hm=>by
     obtain rfl:j=g.c:=by simpa using hm
     rcases List.mem_append.1 hj with z | z
     ·have:=R.kt _ (List.mem_append_left _ z);rw [R.kc] at this;omega
     ·rcases D.gt _ z with y | y
      ·have:=R.kt _ y;rw [R.kc] at this;omega
      ·omega) (AHeap.get_set_same _ _ _)
    (Dso.frame (Nat.le_refl _) fun j hj=>AHeap.get_set_ne _ _ (by rintro rfl;have:=(D.gk _ hj).1;omega))
    (fun p hp=>by
     have hpm:=(List.mem_filter.1 hp).1
     have kp:=R.ku p hpm
     have lp:=R.k0 p.2 (by omega)
     exact ⟨(AHeap.get_set_ne _ _ (by rintro e9;rw [e9,R.kc] at kp;omega)).trans ((D.get p.2 lp (by omega)).trans (R.us p hpm)),.inl ⟨lp,kp⟩⟩)
    (keep_perm R.pm) ((R.nd.sublist ((List.filter_sublist ..).map _)))
    (fun j hj=>by
     rcases D.gt j hj with z | z
     ·exact .inl z
     ·exact .inr ⟨z,by simp⟩)
    (fun j hj=>.inr ⟨(D.gk j hj).1,by simp,fun hm=>(D.gk j hj).2 (List.mem_append_right _ hm)⟩) (by simp)
   exact ⟨_,Fr,R'⟩
end Go.Proofs.YthillgheddpmhaaDoor.Pg
namespace Go.Proofs.YthillgheddpmhaaDoor.Pg
open Go Go.AM Go.Proofs.YthillgheddpmhaaDoor.AmGJ
open Nat (reduceAdd reduceLeDiff reduceEqDiff)
open Int (reduceToNat reduceEq reduceLE)
attribute [local irreducible] pc
variable {h h':AHeap} {g g':RI} {rb:List (Blk×Nat)} {m:Cm}
def KInv (m:Cm):Prop:=∀ b,b∈m.bl→b.keep=true
theorem keep_id (K:KInv m):m.keep=m:=by
 have:m.bl.filter Blk.keep=m.bl:=List.filter_eq_self.2 K
 cases m with
 | mk n pr bl=>unfold Cm.keep;congr
theorem keep_inv (m:Cm):KInv m.keep:=fun b hb=>(List.mem_filter.1 hb).2
theorem keep_no {b:Blk} (hc:b.c≠-2):b.keep=false↔b.u=0∧b.w=none:=by
 unfold Blk.keep
 rw [decide_eq_false hc,Bool.false_or,Bool.or_eq_false_iff]
 simp
theorem keep_drop (I:CInv m) (K:KInv m) {b:Blk} (hb:b∈m.bl) (hc:b.c≠-2) {f:Blk→Blk} (hf:∀ b,(f b).a=b.a∧(f b).c=b.c):(m.upd b.a f).keep=(m.upd b.a f).drop (f b):=by
 have hfc:(f b).c≠-2:=by rw [(hf b).2];exact hc
 have oth:∀ x,x∈(m.upd b.a f).bl→x.a≠b.a→x.keep=true:=fun x hx hne=>by
  rcases mem_upd.1 hx with ⟨y,hy,e,rfl⟩ | ⟨hx',_⟩
  ·exact absurd ((hf y).1.trans e) hne
  ·exact K x hx'
 have own:∀ x,x∈(m.upd b.a f).bl→x.a=b.a→x=f b:=fun x hx he=>by
  rcases mem_upd.1 hx with ⟨y,hy,e,rfl⟩ | ⟨_,z⟩
  ·rw [I.same hy hb e]
  ·exact absurd he z
 unfold Cm.drop Cm.keep
 by_cases z:(f b).u=0∧(f b).w=none
 ·rw [if_pos z]
  unfold Cm.rem
  congr 1
  refine List.filter_congr fun x hx=>?_
  by_cases e:x.a=b.a
  ·rw [own x hx e,(keep_no hfc).2 z,(hf b).1];simp
  ·rw [oth x hx e,(hf b).1];simp [e]
 ·rw [if_neg z]
  have:(m.upd b.a f).bl.filter Blk.keep=(m.upd b.a f).bl:=List.filter_eq_self.2 fun x hx=>by
   by_cases e:x.a=b.a
   ·rw [own x hx e]
    cases e2:(f b).keep with
    | true=>rfl
    | false=>exact absurd ((keep_no hfc).1 e2) z
   ·exact oth x hx e
  rw [this]
theorem filt_map {α:Type} (k:α→Bool) (g:α→α):∀ {l:List α},(∀ x,x∈l→k x=false→k (g x)=false)→((l.filter k).map g).filter k=(l.map g).filter k
 | [],_=>rfl
 | x::l,h=>by
  have ih:=filt_map k g (l:=l) fun y hy=>h y (List.mem_cons_of_mem _ hy)
  cases e:k x with
  | true=>rw [List.filter_cons_of_pos e,List.map_cons,List.map_cons,List.filter_cons,List.filter_cons,ih]
  | false =>
   have e2:=h x (List.mem_cons_self ..) e
   rw [List.filter_cons_of_neg (by simp [e]),List.map_cons,List.filter_cons_of_neg (by simp [e2]),ih]
def loose (p i:Nat) (b:Blk):Blk:=if b.w=some p∧b.c<(i:Int) then Blk.setW none b else b
theorem loose_a (p i:Nat) (b:Blk):(loose p i b).a=b.a∧(loose p i b).k=b.k∧(loose p i b).c=b.c∧(loose p i b).u=b.u:=by unfold loose;split<;>exact ⟨rfl,rfl,rfl,rfl⟩
def Cm.loose (m:Cm) (p i:Nat):Cm:={ m with bl:=(m.bl.map (Pg.loose p i)) }
theorem held_c (I:CInv m) {b:Blk} (hb:b∈m.bl) {p:Nat} (hw:b.w=some p):∃ c:Nat,c<16∧b.c=(c:Int):=by
 rcases I.B b hb with ⟨_,_,e⟩ | ⟨_,_,e⟩ | ⟨c,h1,h2,_⟩
 ·rw [hw] at e;cases e
 ·rw [hw] at e;cases e
 ·exact ⟨c,h1,h2⟩
theorem flN_keep (I:CInv m) (K:KInv m) (p:Nat):∀ i,i≤16→m.flN p i=(m.loose p i).keep
 | 0,_=>by
  have:m.loose p 0=m:=by
   have:m.bl.map (Pg.loose p 0)=m.bl:=by
    have:m.bl.map (Pg.loose p 0)=m.bl.map id:=List.map_congr_left fun b hb=>by
     unfold Pg.loose
     rw [if_neg];rfl
     rintro ⟨h1,h2⟩
     obtain ⟨c,_,hc⟩:=held_c I hb h1
     omega
    rw [this,List.map_id]
   cases m with
   | mk n pr bl=>unfold Cm.loose;congr
  rw [this,keep_id K];rfl
 | i+1,hi=>by
  have ih:=flN_keep I K p i (by omega)
  have I1:=flN_inv I p i
  rw [ih] at I1
  show (m.flN p i).fl1 p i=_
  rw [ih]
  have K1:=keep_inv (m.loose p i)
  have mem:∀ x,x∈(m.loose p i).keep.bl↔(∃ b,b∈m.bl∧Pg.loose p i b=x)∧x.keep=true:=fun x=>by
   unfold Cm.keep Cm.loose
   simp only [List.mem_filter,List.mem_map]
  unfold Cm.fl1
  cases hh:(m.loose p i).keep.held p i with
  | none =>
   have hn:=held_none.1 hh
   show (m.loose p i).keep=(m.loose p (i+1)).keep
   have:m.bl.map (Pg.loose p i)=m.bl.map (Pg.loose p (i+1)):=List.map_congr_left fun b hb=>by
    unfold Pg.loose
    by_cases hw:b.w=some p
    ·by_cases hlt:b.c<(i:Int)
     ·rw [if_pos ⟨hw,hlt⟩,if_pos ⟨hw,by omega⟩]
     ·rw [if_neg fun z=>hlt z.2,if_neg]
      rintro ⟨_,h2⟩
      have e:Pg.loose p i b=b:=by unfold Pg.loose;rw [if_neg fun z=>hlt z.2]
      exact hn b ((mem b).2 ⟨⟨b,hb,e⟩,K b hb⟩) ⟨by omega,hw⟩
    ·rw [if_neg fun z=>hw z.1,if_neg fun z=>hw z.1]
   unfold Cm.loose
   rw [this]
  | some b =>
   obtain ⟨h1,h2,h3⟩:=held_mem hh
   obtain ⟨⟨b0,hb0,e0⟩,hk⟩:=(mem b).1 h1
   have hb:b0=b:=by
    unfold Pg.loose at e0
    by_cases z:b0.w=some p∧b0.c<(i:Int)
    ·rw [if_pos z] at e0;rw [←e0] at h3;cases h3
    ·rw [if_neg z] at e0;exact e0
   subst hb
   show ((m.loose p i).keep.upd b0.a (Blk.setW none)).drop (Blk.setW none b0)=_
   rw [←keep_drop I1 K1 h1 (by omega) (f:=Blk.setW none) fun _=>⟨rfl,rfl⟩]
   have hlist:((((m.bl.map (Pg.loose p i)).filter Blk.keep).map fun x=>if x.a=b0.a then Blk.setW none x else x).filter Blk.keep)=(m.bl.map (Pg.loose p (i+1))).filter Blk.keep:=by
    have q1:∀ x,x∈m.bl→x.a=b0.a→x=b0:=fun x hx hxa=>I.same hx hb0 hxa
    rw [filt_map]
    ·rw [List.map_map]
     congr 1
     refine List.map_congr_left fun x hx=>?_
     simp only [Function.comp]
     by_cases e:x.a=b0.a
     ·obtain rfl:=q1 x hx e
      rw [if_pos (loose_a p i x).1,e0]
      unfold Pg.loose
      rw [if_pos ⟨h3,by omega⟩]
     ·rw [if_neg (by rw [(loose_a p i x).1];exact e)]
      unfold Pg.loose
      by_cases hw:x.w=some p
      ·by_cases hlt:x.c<(i:Int)
       ·rw [if_pos ⟨hw,hlt⟩,if_pos ⟨hw,by omega⟩]
       ·rw [if_neg fun z=>hlt z.2,if_neg]
        rintro ⟨_,z⟩
        exact e (I.H x b0 p hx hb0 hw h3 (by omega))
      ·rw [if_neg fun z=>hw z.1,if_neg fun z=>hw z.1]
    ·intro x hx hkx
     obtain ⟨y,hy,rfl⟩:=List.mem_map.1 hx
     rw [if_neg]
     ·exact hkx
     ·rw [(loose_a p i y).1]
      intro e
      obtain rfl:=q1 y hy e
      rw [e0,hk] at hkx;cases hkx
   unfold Cm.upd Cm.keep Cm.loose
   simp only
   rw [hlist]
theorem flush_keep (I:CInv m) (K:KInv m) (p:Nat):m.flN p 16=({ m with bl:=m.bl.map fun b=>if b.w=some p then Blk.setW none b else b }:Cm).keep:=by
 rw [flN_keep I K p 16 (by omega)]
 have:m.bl.map (Pg.loose p 16)=m.bl.map fun b=>if b.w=some p then Blk.setW none b else b:=List.map_congr_left fun b hb=>by
  unfold Pg.loose
  by_cases hw:b.w=some p
  ·obtain ⟨c,h1,h2⟩:=held_c I hb hw
   rw [if_pos ⟨hw,by omega⟩,if_pos hw]
  ·rw [if_neg fun z=>hw z.1,if_neg hw]
 unfold Cm.loose
 rw [this]
end Go.Proofs.YthillgheddpmhaaDoor.Pg
namespace Go.Proofs.YthillgheddpmhaaDoor.Pg
open Go Go.AM Go.Proofs.YthillgheddpmhaaDoor.AmGJ
open Nat (reduceAdd reduceLeDiff reduceEqDiff)
open Int (reduceToNat reduceEq reduceLE)
attribute [local irreducible] pc
variable {h h':AHeap} {g g':RI} {rb:List (Blk×Nat)} {m:Cm}
theorem keep_u {b:Blk} (h:b.u≠0):b.keep=true:=by unfold Blk.keep;simp [h]
theorem keep_w {b:Blk} {p:Nat} (h:b.w=some p):b.keep=true:=by unfold Blk.keep;simp [h]
theorem keep_c {b:Blk} (h:b.c=-2):b.keep=true:=by unfold Blk.keep;simp [h]
theorem pick2_kinv (I:CInv m) {p c:Nat} (hc:c<16) (D:KInv m):KInv (m.pick2 p c).2:=by
 unfold Cm.pick2
 cases hs:m.spare c with
 | some b =>
  intro y hy
  rcases mem_upd.1 hy with ⟨y',hy',e,rfl⟩ | ⟨hy',e⟩
  ·exact keep_w rfl
  ·exact D y hy'
 | none =>
  simp only
  cases hf:m.fit (pageT.getD c 0) with
  | none=>exact D
  | some a =>
   intro y hy
   rcases mem_upd.1 hy with ⟨y',hy',e,rfl⟩ | ⟨hy',e⟩
   ·exact keep_w rfl
   ·rcases mem_insB.1 hy' with rfl | q
    ·exact absurd rfl e
    ·exact D y q
theorem pick_kinv (I:CInv m) {p c:Nat} (hc:c<16) (D:KInv m):KInv (m.pick p c).2:=by
 unfold Cm.pick
 cases hh:m.held p c with
 | none=>exact pick2_kinv I hc D
 | some b =>
  simp only
  obtain ⟨h1,h2,h3⟩:=held_mem hh
  by_cases hf:b.full=true
  ·rw [if_pos hf]
   have I':CInv (m.upd b.a (Blk.setW none)):=I.setW h1 h2 fun q hq=>by cases hq
   refine pick2_kinv I' hc fun y hy=>?_
   rcases mem_upd.1 hy with ⟨y',hy',e,rfl⟩ | ⟨hy',e⟩
   ·obtain rfl:=I.same hy' h1 e
    refine keep_u fun e0=>?_
    have e0':y'.u=0:=e0
    unfold Blk.full at hf
    rw [e0',pc_z,h2,Int.toNat_natCast] at hf
    have:=tabs c hc
    have:=of_decide_eq_true hf
    omega
   ·exact D y hy'
  ·rw [if_neg hf];exact D
theorem alloc_kinv' (I:CInv m) (D:KInv m) (p w:Int):KInv (m.alloc p w).2:=by
 unfold Cm.alloc
 split
 ·exact D
 ·rename_i hbad
  split
  ·exact D
  ·rename_i h1024
   split
   ·cases hf:m.fit ((w.toNat+63) / 64) with
    | none=>exact D
    | some a =>
     intro y hy
     rcases mem_upd.1 hy with ⟨y',hy',e,rfl⟩ | ⟨hy',e⟩
     ·exact keep_u (by show (1:Nat)≠0;decide)
     ·rcases mem_insB.1 hy' with rfl | q
      ·exact absurd rfl e
      ·exact D y q
   ·obtain ⟨hc16,_⟩:=cls_ok w.toNat (by omega) (by omega)
    have D3:=pick_kinv I (p:=p.toNat) hc16 D
    cases hpk:m.pick p.toNat (clsOf w.toNat) with
    | mk o m3 =>
     rw [hpk] at D3
     cases o with
     | none=>exact D3
     | some a =>
      simp only
      cases hg:m3.get a with
      | none=>exact D3
      | some b =>
       intro y hy
       rcases mem_upd.1 hy with ⟨y',hy',e,rfl⟩ | ⟨hy',e⟩
       ·refine keep_u fun e0=>?_
        have e1:b.u ||| 2^lowZ b.u=0:=e0
        have e2:(b.u ||| 2^lowZ b.u).testBit (lowZ b.u)=true:=by rw [Nat.testBit_or,Nat.testBit_two_pow];simp
        rw [e1] at e2;simp at e2
       ·exact D3 y hy'
set_option maxHeartbeats 8000000 in
theorem rFreeC (R:RC h g rb m) (K:KInv m) (x:Int) (hx:-9223372036854775808≤x∧x≤9223372036854775807):CallP AP 75 [.ptr g.c 0 0,.int .i64 x] h fun r h'=>∃ g' rb',RFr h h' g g'∧RC h' g' rb' (m.free x).2∧KInv (m.free x).2∧r=.int .i64 (m.free x).1:=by
 refine callP (rfl:Tr.get AP 75=some A75) ?_
 generalize hQ:(fun (r:AVal) (h':AHeap)=>_)=Q
 simp -implicitDefEqProofs (disch:=first|exact dz _|fail) only [↓AM.R0,AM.R1,AM.R2,reduceAdd,reduceLeDiff,reduceEqDiff,reduceToNat,Nat.reduceLT,↓reduceIte,reduceEq,Int.reduceLT,reduceLE]
 refine AM.callI_of (rFind R x hx) ?_
 rintro r h2 ⟨f2,⟨hcl,rfl⟩ | ⟨i,p,k,hi,hcl,rfl⟩⟩
 ·simp -implicitDefEqProofs (disch:=first|exact dz _|fail) only [↓AM.R0,AM.R1,AM.R2,reduceAdd,reduceLeDiff,reduceEqDiff,reduceToNat,Nat.reduceLT,↓reduceIte,reduceEq,Int.reduceLT,reduceLE]
  subst hQ
  have e:m.free x=(4,m):=by unfold Cm.free;rw [hcl]
  rw [e]
  exact ⟨g,rb,(RFr.refl h g).tmp f2,R.keep f2,K,rfl⟩
 ·have R2:=R.keep f2
  have hn2:=R.n2
  have hlen:=R.len
  have hpm:=List.mem_of_getElem? hi
  have hb:=R.mem hpm
  have hbd:=R.I.bd hb
  obtain ⟨_,hc,n,hxn,hn,hk,hbit⟩:=cell_mem hcl
  have hbk:=R.I.bit hb hbit
  obtain ⟨hnc,hu,hr1,hr2⟩:=nc_le R.I hb
  have hr:=hr2 hc
  have hil:=(List.getElem?_eq_some_iff.1 hi).1
  have g1:=R2.obj
  have lc:g.c<h2.n:=R2.k0 _ (by rw [R.kc];decide)
  obtain ⟨id,gn,off,vs,x1,x2,x3,x4,x5,x6,_⟩:=R2.setW hi
  have v5:vs[off+i*5]?=some (.int .i64 (p.1.a:Nat)):=rowAt x5 (k:=0) (by omega)
  have v6:vs[off+i*5+2]?=some (.int .i64 (p.1.rws:Nat)):=rowAt x5 (k:=2) (by omega)
  have v7:vs[off+i*5+3]?=some (.sl p.2 0 0 p.1.nc 1):=rowAt x5 (k:=3) (by omega)
  have dneg:decide (((i:Nat):Int)<0)=false:=decide_eq_false (by omega)
  have w1:IntKind.i64.wrap ((p.1.a:Int)*64)=((p.1.a*64:Nat):Int):=(wrap64 (by omega) (by omega)).trans (by omega)
  have w2:IntKind.i64.wrap ((k:Int)*((p.1.rws:Nat):Int))=((k*p.1.ws:Nat):Int):=by rw [hr,←Int.natCast_mul];exact wrap64 (by omega) (by omega)
  have w3:IntKind.i64.wrap (((p.1.a*64:Nat):Int)+((k*p.1.ws:Nat):Int))=((p.1.a*64+k*p.1.ws:Nat):Int):=(wrap64 (by omega) (by omega)).trans (by omega)
  by_cases hx2:((p.1.a*64+k*p.1.ws:Nat):Int)=x
  ·have d2:decide (((p.1.a*64+k*p.1.ws:Nat):Int)=x)=true:=decide_eq_true hx2
   have hkn:k<p.1.nc:=by
    rcases Nat.lt_or_ge k p.1.nc with q | q
    ·exact q
    ·rw [Nat.testBit_lt_two_pow (Nat.lt_of_lt_of_le hu (Nat.pow_le_pow_right (n:=2) (by decide) q))] at hbit;cases hbit
   have gu:=R2.us p hpm
   have lu:p.2<h2.n:=R2.k0 _ (by rw [R2.ku p hpm];decide)
   have xb:=ix1 gu (len:=p.1.nc) (i:=k) hkn
   have xl:=bools_len p.1.nc p.1.u
   have z1':(k+1≤p.1.nc)=True:=eq_true hkn
   have u64:p.1.u<18446744073709551616:=Nat.lt_of_lt_of_le hu (Nat.pow_le_pow_right (by decide) hnc)
   have I':CInv (m.upd p.1.a (Blk.setU (clr p.1.u k))):=R.I.setU hb (by
    have:=clr_le p.1.u k
    rcases R.I.B _ hb with ⟨e,_⟩ | ⟨e,e2,_⟩ | ⟨c,h1,e,_,e4⟩
    ·exact absurd e hc
    ·exact .inl ⟨e,by omega⟩
    ·exact .inr ⟨c,h1,e,by omega⟩)
   have R5:=R2.setB hi (k:=k) (u:=clr p.1.u k) (x:=false) hkn (fun j _=>by
    rw [bits_clr u64 (by omega) hbit j,hbit];rfl) I'
   have F5:=((RFr.refl h g).tmp f2).set (i:=p.2) (fun y=>by rw [R.ku p hpm];decide) (.cells 0 false ((boolsV p.1.nc p.1.u).take k++[.bool false]++(boolsV p.1.nc p.1.u).drop (k+1)))
   simp -implicitDefEqProofs (disch:=first|exact dz _|fail) only [↓AM.R0,AM.R1,AM.R2,reduceAdd,reduceLeDiff,reduceEqDiff,reduceToNat,Nat.reduceLT,↓reduceIte,reduceEq,Int.reduceLT,reduceLE,dneg,g1,x1,x2,x3,x4,v5,v6,v7,w1,w2,w3,d2,xb,gu,xl,z1']
   generalize h2.set p.2 _=h5 at *
   refine AM.callI_of (rDropC R5) ?_
   rintro r h6 ⟨g6,F6,R6⟩
   simp -implicitDefEqProofs (disch:=first|exact dz _|fail) only [↓AM.R0,AM.R1,AM.R2,reduceAdd,reduceLeDiff,reduceEqDiff,reduceToNat,Nat.reduceLT,↓reduceIte,reduceEq,Int.reduceLT,reduceLE]
   subst hQ
   have e:m.free x=(0,(m.upd p.1.a (Blk.setU (clr p.1.u k))).keep):=by
    unfold Cm.free
    rw [hcl]
    simp only [hx2.symm,if_true]
    rw [keep_drop R.I K hb hc (f:=Blk.setU (clr p.1.u k)) fun _=>⟨rfl,rfl⟩]
   rw [e]
   exact ⟨g6,_,F5.trans F6,R6,keep_inv _,rfl⟩
  ·have d2:decide (((p.1.a*64+k*p.1.ws:Nat):Int)=x)=false:=decide_eq_false hx2
   simp -implicitDefEqProofs (disch:=first|exact dz _|fail) only [↓AM.R0,AM.R1,AM.R2,reduceAdd,reduceLeDiff,reduceEqDiff,reduceToNat,Nat.reduceLT,↓reduceIte,reduceEq,Int.reduceLT,reduceLE,dneg,g1,x1,x2,x3,x4,v5,v6,w1,w2,w3,d2]
   subst hQ
   have e:m.free x=(4,m):=by unfold Cm.free;rw [hcl];simp only;rw [if_neg fun z=>hx2 z.symm]
   rw [e]
   exact ⟨g,rb,(RFr.refl h g).tmp f2,R2,K,rfl⟩
set_option maxHeartbeats 4000000 in
theorem rPagesC (R:RC h g rb m) (K:KInv m) (k:Int):CallP AP 77 [.ptr g.c 0 0,.int .i64 k] h fun r h'=>∃ g' rb',RFr h h' g g'∧RC h' g' rb' (m.pages k).2∧KInv (m.pages k).2∧r=res2 (m.pages k).1.1 (m.pages k).1.2:=by
 refine callP (rfl:Tr.get AP 77=some A77) ?_
 generalize hQ:(fun (r:AVal) (h':AHeap)=>_)=Q
 have hlen:=R.len
 simp -implicitDefEqProofs (disch:=first|exact dz _|fail) only [↓AM.R0,AM.R1,AM.R2,reduceAdd,reduceLeDiff,reduceEqDiff,reduceToNat,Nat.reduceLT,↓reduceIte,reduceEq,Int.reduceLT,reduceLE]
 refine AM.callI_of (rMake R k (-2) 1 0 (by omega) (by omega) (by omega) fun a hk hfa=>⟨R.I.ins (b:=⟨a,k.toNat,-2,0,none⟩) (by show 1≤k.toNat;omega) hfa (.inl ⟨rfl,rfl,rfl⟩) rfl,rfl,rfl⟩) ?_
 rintro r h2 ⟨g2,F2,⟨z,R2,rfl⟩ | ⟨z,z1,R2,rfl⟩ | ⟨a,z,z1,z2,ix,R2,rfl⟩⟩
 ·have e:m.pages k=((0,1),m):=by unfold Cm.pages;rw [if_pos z]
  simp -implicitDefEqProofs (disch:=first|exact dz _|fail) only [↓AM.R0,AM.R1,AM.R2,reduceAdd,reduceLeDiff,reduceEqDiff,reduceToNat,Nat.reduceLT,↓reduceIte,reduceEq,Int.reduceLT,reduceLE,res2]
  subst hQ
  rw [e];exact ⟨g2,rb,F2,R2,K,rfl⟩
 ·have e:m.pages k=((0,3),m):=by unfold Cm.pages;rw [if_neg (by omega),z1]
  simp -implicitDefEqProofs (disch:=first|exact dz _|fail) only [↓AM.R0,AM.R1,AM.R2,reduceAdd,reduceLeDiff,reduceEqDiff,reduceToNat,Nat.reduceLT,↓reduceIte,reduceEq,Int.reduceLT,reduceLE,res2]
  subst hQ
  rw [e];exact ⟨g2,rb,F2,R2,K,rfl⟩
 ·have e:m.pages k=((((a:Nat):Int),0),m.ins ⟨a,k.toNat,-2,0,none⟩):=by unfold Cm.pages;rw [if_neg (by omega),z1]
  have hil:(rb++[((⟨a,k.toNat,-2,0,none⟩:Blk),ix)])[rb.length]?=some ((⟨a,k.toNat,-2,0,none⟩:Blk),ix):=by simp
  have g1:=R2.obj
  have lc:g2.c<h2.n:=R2.k0 _ (by rw [R2.kc];decide)
  rw [F2.c] at g1 lc
  obtain ⟨id,gn,off,vs,x1,x2,x3,x4,x5,x6,_⟩:=R2.setW hil
  have v5:vs[off+rb.length*5]?=some (.int .i64 (a:Nat)):=rowAt x5 (k:=0) (by omega)
  simp -implicitDefEqProofs (disch:=first|exact dz _|fail) only [↓AM.R0,AM.R1,AM.R2,reduceAdd,reduceLeDiff,reduceEqDiff,reduceToNat,Nat.reduceLT,↓reduceIte,reduceEq,Int.reduceLT,reduceLE,res2,g1,x1,x2,x3,x4,v5]
  subst hQ
  rw [e]
  refine ⟨g2,_,F2,R2,fun y hy=>?_,rfl⟩
  rcases mem_insB.1 hy with rfl | q
  ·exact keep_c rfl
  ·exact K y q
end Go.Proofs.YthillgheddpmhaaDoor.Pg
namespace Go.Proofs.YthillgheddpmhaaDoor.Pg
open Go Go.AM Go.Proofs.YthillgheddpmhaaDoor.AmGJ
open Nat (reduceAdd reduceLeDiff reduceEqDiff)
open Int (reduceToNat reduceEq reduceLE)
attribute [local irreducible] pc
variable {h h':AHeap} {g g':RI} {rb:List (Blk×Nat)} {m:Cm}
def letGo (p:Nat) (b:Blk):Blk:=if b.w=some p then Blk.setW none b else b
def Cm.loN (m:Cm) (p:Nat) (l:List Nat):Cm:={ m with bl:=m.bl.map fun b=>if b.a∈l then letGo p b else b }
theorem letGo_a (p:Nat) (b:Blk):(letGo p b).a=b.a:=by unfold letGo;split<;>rfl
theorem loN_nil (m:Cm) (p:Nat):m.loN p []=m:=by
 have:(m.bl.map fun b=>if b.a∈([]:List Nat) then letGo p b else b)=m.bl:=by
  have:(m.bl.map fun b=>if b.a∈([]:List Nat) then letGo p b else b)=m.bl.map id:=List.map_congr_left fun b _=>by simp
  rw [this,List.map_id]
 cases m with
 | mk n pr bl=>unfold Cm.loN;congr
theorem loN_yes {p a:Nat} {l:List Nat} (hw:∀ b,b∈m.bl→b.a=a→b.w=some p):(m.loN p l).upd a (Blk.setW none)=m.loN p (l++[a]):=by
 have:((m.loN p l).upd a (Blk.setW none)).bl=(m.loN p (l++[a])).bl:=by
  unfold Cm.upd Cm.loN
  simp only [List.map_map]
  refine List.map_congr_left fun b hb=>?_
  simp only [Function.comp]
  by_cases e:b.a=a
  ·have h1:(if b.a∈l then letGo p b else b).a=a:=by split;rw [letGo_a,e];exact e
   have hm:b.a∈l++[a]:=by simp [e]
   have hl:letGo p b=Blk.setW none b:=by unfold letGo;rw [if_pos (hw b hb e)]
   rw [if_pos h1,if_pos hm,hl]
   split<;>rfl
  ·have h1:(if b.a∈l then letGo p b else b).a≠a:=by split;rw [letGo_a];exact e;exact e
   rw [if_neg h1]
   by_cases h2:b.a∈l
   ·rw [if_pos h2,if_pos (List.mem_append_left _ h2)]
   ·rw [if_neg h2,if_neg (by simp [h2,e])]
 unfold Cm.upd Cm.loN at this ⊢
 simp only at this ⊢
 rw [this]
theorem loN_no {p a:Nat} {l:List Nat} (hw:∀ b,b∈m.bl→b.a=a→b.w≠some p):m.loN p (l++[a])=m.loN p l:=by
 unfold Cm.loN
 congr 1
 refine List.map_congr_left fun b hb=>?_
 by_cases h2:b.a∈l
 ·rw [if_pos h2,if_pos (List.mem_append_left _ h2)]
 ·rw [if_neg h2]
  by_cases e:b.a=a
  ·rw [if_pos (by simp [e])];unfold letGo;rw [if_neg (hw b hb e)]
  ·rw [if_neg (by simp [h2,e])]
theorem loN_all (R:RC h g rb m) (p:Nat):m.loN p (rb.map (·.1.a))={ m with bl:=m.bl.map fun b=>if b.w=some p then Blk.setW none b else b }:=by
 unfold Cm.loN
 congr 1
 refine List.map_congr_left fun b hb=>?_
 obtain ⟨x,hx⟩:=R.has hb
 rw [if_pos (List.mem_map.2 ⟨(b,x),hx,rfl⟩)];rfl
set_option maxHeartbeats 8000000 in
theorem rFlushC (R:RC h g rb m) (K:KInv m) (p:Int):CallP AP 76 [.ptr g.c 0 0,.int .i64 p] h fun r h'=>∃ g' rb',RFr h h' g g'∧RC h' g' rb' (m.flush p).2∧KInv (m.flush p).2∧r=.int .i64 (m.flush p).1:=by
 refine callP (rfl:Tr.get AP 76=some A76) ?_
 generalize hQ:(fun (r:AVal) (h':AHeap)=>_)=Q
 have g1:=R.obj
 have lc:g.c<h.n:=R.k0 _ (by rw [R.kc];decide)
 have hlen:=R.len
 by_cases hbad:p<0∨(m.pr:Int)≤p
 ·have e:m.flush p=(1,m):=by unfold Cm.flush;rw [if_pos hbad]
  rw [e] at hQ
  rcases Int.lt_or_le p 0 with c | c
  ·have d1:decide (p<0)=true:=decide_eq_true c
   simp -implicitDefEqProofs (disch:=first|exact dz _|fail) only [↓AM.R0,AM.R1,AM.R2,reduceAdd,reduceLeDiff,reduceEqDiff,reduceToNat,Nat.reduceLT,↓reduceIte,reduceEq,Int.reduceLT,reduceLE,d1]
   subst hQ;exact ⟨g,rb,RFr.refl h g,R,K,rfl⟩
  ·have d1:decide (p<0)=false:=decide_eq_false (by omega)
   have d2:decide ((m.pr:Int)≤p)=true:=decide_eq_true (by omega)
   simp -implicitDefEqProofs (disch:=first|exact dz _|fail) only [↓AM.R0,AM.R1,AM.R2,reduceAdd,reduceLeDiff,reduceEqDiff,reduceToNat,Nat.reduceLT,↓reduceIte,reduceEq,Int.reduceLT,reduceLE,d1,d2,g1]
   subst hQ;exact ⟨g,rb,RFr.refl h g,R,K,rfl⟩
 obtain ⟨p,rfl⟩:∃ x:Nat,p=x:=⟨p.toNat,by omega⟩
 have e:m.flush p=(0,m.flN p 16):=by unfold Cm.flush;rw [if_neg hbad,Int.toNat_natCast]
 rw [e,flush_keep R.I K p,←loN_all R p] at hQ
 have d1:decide ((p:Int)<0)=false:=decide_eq_false (by omega)
 have d2:decide ((m.pr:Int)≤p)=false:=decide_eq_false (by omega)
 simp -implicitDefEqProofs (disch:=first|exact dz _|fail) only [↓AM.R0,AM.R1,AM.R2,reduceAdd,reduceLeDiff,reduceEqDiff,reduceToNat,Nat.reduceLT,↓reduceIte,reduceEq,Int.reduceLT,reduceLE,d1,d2,g1]
 clear g1 lc
 refine AM.loopI_of (fun k e h'=>∃ (i:Nat) (rb':List (Blk×Nat)),k+i=rb.length∧rb'.length=rb.length∧(∀ j,i≤j→rb'[j]?=rb[j]?)∧RFr h h' g g∧RC h' g rb' (m.loN p ((rb.take i).map (·.1.a)))∧e.val 0=.ptr g.c 0 0∧e.val 1=.int .i64 (p:Int)∧e.val 5=.int .i64 (i:Int)) rb.length ?_ ?_
 ·refine ⟨0,rb,by omega,rfl,fun _ _=>rfl,RFr.refl h g,by rw [List.take_zero,List.map_nil,loN_nil];exact R,?_,?_,?_⟩<;>(simp -implicitDefEqProofs (disch:=first|exact dz _|fail) only [↓AM.R0,AM.R1,AM.R2,reduceAdd,reduceLeDiff,reduceEqDiff,reduceToNat,Nat.reduceLT,↓reduceIte,reduceEq,Int.reduceLT,reduceLE])<;>rfl
 ·rintro k e h' ⟨i,rb',hk,hl',hrb,Fr,R',y0,y1,y5⟩
  have g1:=R'.obj
  have lc:g.c<h'.n:=R'.k0 _ (by rw [R'.kc];decide)
  simp -implicitDefEqProofs (disch:=first|exact dz _|fail) only [↓AM.R0,AM.R1,AM.R2,reduceAdd,reduceLeDiff,reduceEqDiff,reduceToNat,Nat.reduceLT,↓reduceIte,reduceEq,Int.reduceLT,reduceLE,y0,y5,g1,R'.so.len]
  refine AM.cI_bool (fun hcc=>?_) (fun hcc=>?_)
  ·simp only [decide_eq_true_eq] at hcc
   obtain ⟨q,hq⟩:∃ q,rb'[i]?=some q:=⟨_,List.getElem?_eq_getElem (by omega)⟩
   have hq0:=hq
   rw [hrb i (Nat.le_refl _)] at hq0
   have hb0:=R.mem (List.mem_of_getElem? hq0)
   have hb:=R'.mem (List.mem_of_getElem? hq)
   obtain ⟨id,gn,off,vs,x1,x2,x3,x4,x5,x6,x7⟩:=R'.setW hq
   have v5:vs[off+i*5+4]?=some (.int .i64 (holdI q.1.w)):=rowAt x5 (k:=4) (by omega)
   have w1:IntKind.i64.wrap ((i:Int)+1)=((i+1:Nat):Int):=(wrap64 (by omega) (by omega)).trans (by omega)
   have htk:(rb.take (i+1)).map (·.1.a)=(rb.take i).map (·.1.a)++[q.1.a]:=by rw [take_snoc hq0,List.map_append];rfl
   by_cases c2:holdI q.1.w=(p:Int)
   ·have d3:decide (holdI q.1.w=(p:Int))=true:=decide_eq_true c2
    simp -implicitDefEqProofs (disch:=first|exact dz _|fail) only [↓AM.R0,AM.R1,AM.R2,reduceAdd,reduceLeDiff,reduceEqDiff,reduceToNat,Nat.reduceLT,↓reduceIte,reduceEq,Int.reduceLT,reduceLE,y0,y1,y5,g1,x1,x2,x3,x4,v5,d3,w1]
    have hw:=hold_is.1 c2
    obtain ⟨c,hc1,hc2⟩:=held_c R'.I hb hw
    have I2:=R'.I.setW hb (w:=none) hc2 (by intro _ z;cases z)
    have R2:=x7 none I2
    rw [loN_yes fun b hb' z=>by rw [R.I.same hb' hb0 z];exact hw,←htk] at R2
    exact ⟨k-1,by omega,i+1,_,by omega,by rw [List.length_set];exact hl',fun j hj=>by rw [List.getElem?_set_ne (by omega)];exact hrb j (by omega),Fr.set (fun _=>by rw [x6];decide) _,R2,rfl⟩
   ·have d3:decide (holdI q.1.w=(p:Int))=false:=decide_eq_false c2
    simp -implicitDefEqProofs (disch:=first|exact dz _|fail) only [↓AM.R0,AM.R1,AM.R2,reduceAdd,reduceLeDiff,reduceEqDiff,reduceToNat,Nat.reduceLT,↓reduceIte,reduceEq,Int.reduceLT,reduceLE,y0,y1,y5,g1,x1,x2,x3,x4,v5,d3,w1]
    exact ⟨k-1,by omega,i+1,rb',by omega,hl',fun j hj=>hrb j (by omega),Fr,by
     rw [htk,loN_no fun b hb' z=>by rw [R.I.same hb' hb0 z];exact fun y=>c2 (hold_is.2 y)];exact R',rfl⟩
  ·simp only [decide_eq_false_iff_not] at hcc
   obtain rfl:i=rb.length:=by omega
   rw [List.take_length] at R'
   simp -implicitDefEqProofs (disch:=first|exact dz _|fail) only [↓AM.R0,AM.R1,AM.R2,reduceAdd,reduceLeDiff,reduceEqDiff,reduceToNat,Nat.reduceLT,↓reduceIte,reduceEq,Int.reduceLT,reduceLE,y0]
   refine AM.callI_of (rDropC R') ?_
   rintro r h6 ⟨g6,F6,R6⟩
   simp -implicitDefEqProofs (disch:=first|exact dz _|fail) only [↓AM.R0,AM.R1,AM.R2,reduceAdd,reduceLeDiff,reduceEqDiff,reduceToNat,Nat.reduceLT,↓reduceIte,reduceEq,Int.reduceLT,reduceLE]
   subst hQ
   exact ⟨g6,_,Fr.trans F6,R6,keep_inv _,rfl⟩
end Go.Proofs.YthillgheddpmhaaDoor.Pg
namespace Go.Proofs.YthillgheddpmhaaDoor.Pg
open Go Go.AM Go.Proofs.YthillgheddpmhaaDoor.AmGJ
open Nat (reduceAdd reduceLeDiff reduceEqDiff)
open Int (reduceToNat reduceEq reduceLE)
attribute [local irreducible] pc
variable {h h':AHeap} {g g':RI} {rb:List (Blk×Nat)} {m:Cm}
def isP (x:Int) (b:Blk):Bool:=decide ((b.a:Int)=x)&&decide (b.c=-2)
structure GiveA (h h':AHeap) (rb:List (Blk×Nat)) (x:Int) (i:Nat) (v:AVal) (Gk:List Nat):Prop where
 F:HFrame h h' [] Gk
 so:SlOf h' 5 encRB v ((rb.take i).filter fun p=>!isP x p.1) Gk
 gk:∀ j,j∈Gk→h.n≤j
set_option maxHeartbeats 8000000 in
theorem rGiveC (R:RC h g rb m) (K:KInv m) (x:Int):CallP AP 78 [.ptr g.c 0 0,.int .i64 x] h fun r h'=>∃ g' rb',RFr h h' g g'∧RC h' g' rb' (m.give x).2∧KInv (m.give x).2∧r=.int .i64 (m.give x).1:=by
 refine callP (rfl:Tr.get AP 78=some A78) ?_
 generalize hQ:(fun (r:AVal) (h':AHeap)=>_)=Q
 have hlen:=R.len
 simp -implicitDefEqProofs (disch:=first|exact dz _|fail) only [↓AM.R0,AM.R1,AM.R2,reduceAdd,reduceLeDiff,reduceEqDiff,reduceToNat,Nat.reduceLT,↓reduceIte,reduceEq,Int.reduceLT,reduceLE]
 refine AM.loopI_of (fun k e h'=>∃ (i:Nat) (v:AVal) (Gk:List Nat),k+i=rb.length∧GiveA h h' rb x i v Gk∧e.val 0=.ptr g.c 0 0∧e.val 1=.int .i64 x∧e.val 5=v∧e.val 6=.bool ((rb.take i).any fun p=>isP x p.1)∧e.val 7=.int .i64 (i:Int)) rb.length ?_ ?_
 ·refine ⟨0,.nils,[],by omega,⟨HFrame.refl (by simp),SlOf.nil,by simp⟩,?_,?_,?_,?_,?_⟩<;>(simp -implicitDefEqProofs (disch:=first|exact dz _|fail) only [↓AM.R0,AM.R1,AM.R2,reduceAdd,reduceLeDiff,reduceEqDiff,reduceToNat,Nat.reduceLT,↓reduceIte,reduceEq,Int.reduceLT,reduceLE])<;>rfl
 ·rintro k e h' ⟨i,v,Gk,hk,D,y0,y1,y5,y6,y7⟩
  have R':=R.keep D.F
  have g1:=R'.obj
  have lc:g.c<h'.n:=R'.k0 _ (by rw [R'.kc];decide)
  simp -implicitDefEqProofs (disch:=first|exact dz _|fail) only [↓AM.R0,AM.R1,AM.R2,reduceAdd,reduceLeDiff,reduceEqDiff,reduceToNat,Nat.reduceLT,↓reduceIte,reduceEq,Int.reduceLT,reduceLE,y0,y7,g1,R'.so.len]
  refine AM.cI_bool (fun hcc=>?_) (fun hcc=>?_)
  ·simp only [decide_eq_true_eq] at hcc
   obtain ⟨q,hq⟩:∃ q,rb[i]?=some q:=⟨_,List.getElem?_eq_getElem (by omega)⟩
   obtain ⟨id,gn,off,vs,x1,x2,x3,x4,x5,x6,_⟩:=R'.setW hq
   have v5:vs[off+i*5]?=some (.int .i64 (q.1.a:Nat)):=rowAt x5 (k:=0) (by omega)
   have v6:vs[off+i*5+1]?=some (.int .i64 q.1.c):=rowAt x5 (k:=1) (by omega)
   have w1:IntKind.i64.wrap ((i:Int)+1)=((i+1:Nat):Int):=(wrap64 (by omega) (by omega)).trans (by omega)
   have hany:(rb.take (i+1)).any (fun p=>isP x p.1)=((rb.take i).any (fun p=>isP x p.1)||isP x q.1):=by rw [take_snoc hq,List.any_append];simp
   have hfil:(rb.take (i+1)).filter (fun p=>!isP x p.1)=if isP x q.1 then (rb.take i).filter (fun p=>!isP x p.1) else (rb.take i).filter (fun p=>!isP x p.1)++[q]:=by
    rw [take_snoc hq,List.filter_append]
    cases e:isP x q.1<;>simp [e]
   simp -implicitDefEqProofs (disch:=first|exact dz _|fail) only [AM.RGB,↓AM.R0,AM.R1,AM.R2,reduceAdd,reduceLeDiff,reduceEqDiff,reduceToNat,Nat.reduceLT,↓reduceIte,reduceEq,Int.reduceLT,reduceLE,y0,y1,y7,g1,x1,x2,x3,x4,v5,v6]
   cases hp:isP x q.1 with
   | true =>
    have hp':=hp
    unfold isP at hp'
    simp -implicitDefEqProofs (disch:=first|exact dz _|fail) only [↓AM.R0,AM.R1,AM.R2,reduceAdd,reduceLeDiff,reduceEqDiff,reduceToNat,Nat.reduceLT,↓reduceIte,reduceEq,Int.reduceLT,reduceLE,hp',y0,y1,y5,y6,y7,w1]
    exact ⟨k-1,by omega,i+1,v,Gk,by omega,⟨D.F,by rw [hfil,hp];exact D.so,D.gk⟩,rfl,by rw [hany,hp,Bool.or_true],rfl⟩
   | false =>
    have hp':=hp
    unfold isP at hp'
    have q0:=D.so.rd.cells
    have hfl:((rb.take i).filter fun p=>!isP x p.1).length≤4096:=by
     have q1:=List.length_filter_le (fun p:Blk×Nat=>!isP x p.1) (rb.take i)
     rw [List.length_take] at q1;omega
    simp -implicitDefEqProofs (disch:=first|exact dz _|fail) only [↓AM.R0,AM.R1,AM.R2,reduceAdd,reduceLeDiff,reduceEqDiff,reduceToNat,Nat.reduceLT,↓reduceIte,reduceEq,Int.reduceLT,reduceLE,hp',y0,y1,y5,y6,y7,w1,g1,x1,x2,x3,x4,x5,encRB]
    refine AM.opI_of (SlOf.app1 (enc:=encRB) D.so (fun _=>rfl) (fun _=>rfl) (by omega) q fun v' h6 G6 s6 f6=>?_)
    simp -implicitDefEqProofs (disch:=first|exact dz _|fail) only [↓AM.R0,AM.R1,AM.R2,reduceAdd,reduceLeDiff,reduceEqDiff,reduceToNat,Nat.reduceLT,↓reduceIte,reduceEq,Int.reduceLT,reduceLE,y0,y1,y5,y6,y7,w1]
    have nD:=D.F.n
    exact ⟨k-1,by omega,i+1,v',G6,by omega,⟨⟨Nat.le_trans D.F.n f6.n,f6.g.trans D.F.g,fun j hj _=>(f6.get j (by omega) fun hm=>by have:=D.gk j hm;omega).trans (D.F.get j hj (by simp)),fun j hj=>.inr (by
      rcases f6.new j hj with z | z
      ·exact D.gk j z
      ·omega),s6.lt⟩,by rw [hfil,hp];exact s6,fun j hj=>by
      rcases f6.new j hj with z | z
      ·exact D.gk j z
      ·omega⟩,rfl,by rw [hany,hp,Bool.or_false],rfl⟩
  ·simp only [decide_eq_false_iff_not] at hcc
   obtain rfl:i=rb.length:=by omega
   have Dso:=D.so
   rw [List.take_length] at y6 Dso
   subst y5
   cases ha:rb.any (fun p=>isP x p.1) with
   | false =>
    rw [ha] at y6
    simp -implicitDefEqProofs (disch:=first|exact dz _|fail) only [↓AM.R0,AM.R1,AM.R2,reduceAdd,reduceLeDiff,reduceEqDiff,reduceToNat,Nat.reduceLT,↓reduceIte,reduceEq,Int.reduceLT,reduceLE,y6]
    subst hQ
    have e1:m.give x=(4,m):=by
     unfold Cm.give
     have:m.bl.find? (fun b=>decide ((b.a:Int)=x)&&decide (b.c=-2))=none:=by
      rw [List.find?_eq_none]
      intro b hb
      obtain ⟨y,hy⟩:=R.has hb
      rw [List.any_eq_false] at ha
      exact ha _ hy
     rw [this]
    rw [e1]
    exact ⟨g,rb,(RFr.refl h g).tmp (Go.Proofs.YthillgheddpmhaaDoor.Pg.HFrame.non D.F),R',K,rfl⟩
   | true =>
    rw [ha] at y6
    obtain ⟨q,hq,hqp⟩:=List.any_eq_true.1 ha
    have hb:=R.mem hq
    unfold isP at hqp
    simp only [Bool.and_eq_true,decide_eq_true_eq] at hqp
    obtain ⟨rfl,hq2⟩:=hqp
    have e1:m.give (q.1.a:Int)=(0,m.rem q.1.a):=by
     unfold Cm.give
     cases e2:m.bl.find? (fun b=>decide ((b.a:Int)=(q.1.a:Int))&&decide (b.c=-2)) with
     | none =>
      rw [List.find?_eq_none] at e2
      exact absurd (by simp [hq2]) (e2 _ hb)
     | some b =>
      have h3:=List.find?_some e2
      have h4:=List.mem_of_find?_eq_some e2
      simp only [Bool.and_eq_true,decide_eq_true_eq] at h3
      have:b.a=q.1.a:=by omega
      simp only [this]
    have q0:=Dso.rd.cells
    simp -implicitDefEqProofs (disch:=first|exact dz _|fail) only [↓AM.R0,AM.R1,AM.R2,reduceAdd,reduceLeDiff,reduceEqDiff,reduceToNat,Nat.reduceLT,↓reduceIte,reduceEq,Int.reduceLT,reduceLE,y0,y1,y6,g1,q0.1,q0.2]
    have f5:HFrame h' (h'.set g.c (.cells 0 false [.ptr g.u 0 0,e.val 5,.int .i64 m.pr])) [g.c] [g.c]:=HFrame.set _ _ _ (by simp) (by simpa using lc)
    have T5:=R'.T.keepD f5 fun j hj hm=>by
     obtain rfl:j=g.c:=by simpa using hm
     have:=R.kt _ hj;rw [R.kc] at this;omega
    refine AM.callI_of (rsFree T5 (q.1.a:Int)) ?_
    rintro r h6 ⟨gf,L',vt',Gt',f6,T6,A⟩
    obtain ⟨hgf,hL,rfl⟩:gf=(m.rem q.1.a).f∧L'=(m.rem q.1.a).L0∧r=.int .i64 0:=by
     rcases A with ⟨s,hs,hsa,hg,hL,hr⟩ | ⟨hno,_⟩
     ·obtain ⟨b,hb',rfl⟩:=List.mem_map.1 hs
      have hba:b.a=q.1.a:=by have:(b.a:Int)=(q.1.a:Int):=hsa;omega
      obtain rfl:=R.I.same hb' hb hba
      refine ⟨?_,by rw [rem_L0];exact hL,hr⟩
      rw [rem_f R.I hb]
      funext q;exact hg q
     ·exact absurd rfl (hno ⟨q.1.a,q.1.k,0⟩ (List.mem_map.2 ⟨q.1,hb,rfl⟩))
    simp -implicitDefEqProofs (disch:=first|exact dz _|fail) only [↓AM.R0,AM.R1,AM.R2,reduceAdd,reduceLeDiff,reduceEqDiff,reduceToNat,Nat.reduceLT,↓reduceIte,reduceEq,Int.reduceLT,reduceLE]
    subst hQ
    rw [e1]
    have nD:=D.F.n
    have n6:h'.n≤h6.n:=f6.n
    have ntab:∀ j,g.K j≠4→j<h'.n→j≠g.c→h6.get j=h'.get j:=fun j k1 k2 k3=>(f6.get j k2 fun hm=>k1 (R.kt j hm)).trans (AHeap.get_set_ne _ _ (fun z=>k3 z))
    have hfil:rb.filter (fun p=>!isP (q.1.a:Int) p.1)=rb.filter fun p=>p.1.a != q.1.a:=by
     refine List.filter_congr fun p hp=>?_
     unfold isP
     by_cases z:p.1.a=q.1.a
     ·have:=R.I.same (R.mem hp) hb z
      rw [this];simp [hq2]
     ·have:¬ ((p.1.a:Int)=(q.1.a:Int)):=by omega
      simp [this,z]
    rw [hfil] at Dso
    have lo:∀ j,g.K j≠0→j<h'.n:=fun j z=>by have:=R.k0 j z;omega
    obtain ⟨Fr,R6⟩:=R.mk2 (h':=h6) (m':=m.rem q.1.a) (rb':=rb.filter fun p=>p.1.a != q.1.a) (vt:=vt') (v:=e.val 5) (Gt:=Gt') (G:=Gk) (ex:=[]) (Nat.le_trans nD n6) (f6.g.trans D.F.g)
     (fun j q1 q2=>(ntab j (by omega) (by omega) (by rintro rfl;rw [R.kc] at q2;cases q2)).trans (D.F.get j q1 (by simp))) (R.I.rem hb) rfl
     (by rw [←hgf,←hL];exact T6)
     ((f6.get g.c lc fun hm=>by have:=R.kt _ hm;rw [R.kc] at this;omega).trans (AHeap.get_set_same _ _ _))
     (Dso.frame n6 fun j hj=>ntab j (by
      intro z
      have z1:=D.gk j hj
      have z2:=R.k0 j (by omega)
      omega) (Dso.lt j hj) (by
      rintro rfl
      have z1:=D.gk _ hj
      have z2:=R.k0 g.c (by rw [R.kc];decide)
      omega))
     (fun p hp=>by
      have hpm:=(List.mem_filter.1 hp).1
      have kp:=R.ku p hpm
      have lp:=R.k0 p.2 (by omega)
      exact ⟨(ntab p.2 (by omega) (by omega) (by rintro z;rw [z,R.kc] at kp;omega)).trans (R'.us p hpm),.inl ⟨lp,kp⟩⟩)
     (by
      have:=R.pm.filter fun b=>b.a != q.1.a
      rw [List.filter_map] at this
      exact this)
     (R.nd.sublist ((List.filter_sublist ..).map _))
     (fun j hj=>by
      rcases f6.new j (List.mem_append_right _ hj) with z | z
      ·exact .inl z
      ·exact .inr ⟨by have z':h'.n≤j:=z;omega,by simp⟩)
     (fun j hj=>.inr ⟨D.gk j hj,by simp,fun hm=>by
      have z1:=D.gk j hj
      have z2:=Dso.lt j hj
      rcases f6.new j (List.mem_append_right _ hm) with z | z
      ·have:=R.k0 j (by rw [R.kt j z];decide);omega
      ·have z':h'.n≤j:=z;omega⟩) (by simp)
    exact ⟨_,_,Fr,R6,fun y hy=>K y (List.mem_filter.1 hy).1,rfl⟩
set_option maxHeartbeats 8000000 in
theorem rNewC {h:AHeap} (n p:Int):CallP AP 51 [.int .i64 n,.int .i64 p] h fun r h'=>(¬ (1≤p∧p≤8∧1≤n∧n≤4096)∧HFrame h h' [] []∧r=.tup [.nilp,.int .i64 1]) ∨
  (1≤p∧p≤8∧1≤n∧n≤4096∧∃ g,HFrame h h' [] []∧(∀ j,g.K j≠0→h.n≤j)∧RC h' g [] (Cm.zero n.toNat p.toNat)∧r=.tup [.ptr g.c 0 0,.int .i64 0]):=by
 refine callP (rfl:Tr.get AP 51=some A51) ?_
 generalize hQ:(fun (r:AVal) (h':AHeap)=>_)=Q
 rcases Int.lt_or_le p 1 with c1 | c1
 ·have d1:decide (p<1)=true:=decide_eq_true c1
  simp -implicitDefEqProofs (disch:=first|exact dz _|fail) only [↓AM.R0,AM.R1,AM.R2,reduceAdd,reduceLeDiff,reduceEqDiff,reduceToNat,Nat.reduceLT,↓reduceIte,reduceEq,Int.reduceLT,reduceLE,d1]
  subst hQ;exact .inl ⟨by omega,HFrame.refl (by simp),rfl⟩
 have d1:decide (p<1)=false:=decide_eq_false (by omega)
 rcases Int.lt_or_le 8 p with c2 | c2
 ·have d2:decide ((8:Int)<p)=true:=decide_eq_true c2
  simp -implicitDefEqProofs (disch:=first|exact dz _|fail) only [↓AM.R0,AM.R1,AM.R2,reduceAdd,reduceLeDiff,reduceEqDiff,reduceToNat,Nat.reduceLT,↓reduceIte,reduceEq,Int.reduceLT,reduceLE,d1,d2]
  subst hQ;exact .inl ⟨by omega,HFrame.refl (by simp),rfl⟩
 have d2:decide ((8:Int)<p)=false:=decide_eq_false (by omega)
 simp -implicitDefEqProofs (disch:=first|exact dz _|fail) only [↓AM.R0,AM.R1,AM.R2,reduceAdd,reduceLeDiff,reduceEqDiff,reduceToNat,Nat.reduceLT,↓reduceIte,reduceEq,Int.reduceLT,reduceLE,d1,d2]
 refine AM.callI_of (rsNew n) ?_
 rintro v h1 (⟨c,f1,rfl⟩ | ⟨n1,n2,u,r,b,f1,T,rfl⟩)
 ·simp -implicitDefEqProofs (disch:=first|exact dz _|fail) only [↓AM.R0,AM.R1,AM.R2,reduceAdd,reduceLeDiff,reduceEqDiff,reduceToNat,Nat.reduceLT,↓reduceIte,reduceEq,Int.reduceLT,reduceLE]
  subst hQ
  exact .inl ⟨fun z=>c z.2.2,f1,rfl⟩
 ·simp -implicitDefEqProofs (disch:=first|exact dz _|fail) only [↓AM.R0,AM.R1,AM.R2,reduceAdd,reduceLeDiff,reduceEqDiff,reduceToNat,Nat.reduceLT,↓reduceIte,reduceEq,Int.reduceLT,reduceLE]
  subst hQ
  refine .inr ⟨c1,c2,n1,n2,⟨h1.n,u,r,b,.nils,[],.nils,[],fun j=>if j=h1.n then 1 else if j∈[u,r,b] then 4 else 0⟩,?_,?_,?_,rfl⟩
  ·exact (Go.Proofs.YthillgheddpmhaaDoor.Pg.HFrame.non f1).pushTmp _
  ·intro j hj
   have:=f1.n
   by_cases z:j=h1.n
   ·omega
   ·by_cases y:j∈[u,r,b]
    ·rcases f1.new j y with w | w
     ·cases w
     ·exact w
    ·simp only [if_neg z,if_neg y] at hj;exact absurd rfl hj
  ·have fq:=(HFrame.refl (h:=h1) (F:=[]) (by simp)).pushTmp (.cells 0 false [.ptr u 0 0,.nils,.int .i64 p])
   have ef:(Cm.zero n.toNat p.toNat).f=fun q=>decide (q<n.toNat):=by funext q;unfold Cm.f Cm.zero;simp
   have ep:((Cm.zero n.toNat p.toNat).pr:Int)=p:=by show (p.toNat:Int)=p;omega
   refine ⟨zeroI_,?_,?_,SlOf.nil,by simp,List.Perm.refl _,List.nodup_nil,fun j hj=>?_,if_pos rfl,by simp,by simp,fun j hj=>?_⟩
   ·rw [ef];exact T.keep fq
   ·rw [ep];exact AHeap.get_push_same _ _
   ·by_cases z:j=h1.n
    ·rw [z];simp
    ·by_cases y:j∈[u,r,b]
     ·have:=f1.lt j y;simp;omega
     ·simp only [if_neg z,if_neg y] at hj;exact absurd rfl hj
   ·have y:j∈[u,r,b]:=by simpa using hj
    have:=f1.lt j y
    show (if j=h1.n then 1 else if j∈[u,r,b] then 4 else 0)=4
    rw [if_neg (by omega),if_pos y]
end Go.Proofs.YthillgheddpmhaaDoor.Pg
namespace Go.Proofs.YthillgheddpmhaaDoor.Pg
open Go Go.AM Go.Proofs.YthillgheddpmhaaDoor.AmGJ
open Nat (reduceAdd reduceLeDiff reduceEqDiff)
open Int (reduceToNat reduceEq reduceLE)
attribute [local irreducible] pc
variable {h0 h h':AHeap} {g g':CG} {gr gr':RI} {rb:List (Blk×Nat)} {m m':Cm}
def ownR (gr:RI) (n:Nat):List Nat:=(List.range n).filter fun j=>decide (gr.K j≠0)
theorem mem_ownR {gr:RI} {n j:Nat}:j∈ownR gr n↔j<n∧gr.K j≠0:=by unfold ownR;rw [List.mem_filter,List.mem_range,decide_eq_true_eq]
theorem RFr.toH (a:RFr h h' gr gr'):HFrame h h' (ownR gr h.n) [] :=
 ⟨a.n,a.G,fun j hj hm=>a.get j hj (Decidable.byContradiction fun z=>hm (mem_ownR.2 ⟨hj,z⟩)),fun j hj=>by simp at hj,fun j hj=>by simp at hj⟩
def ownC (g:CG) (n:Nat):List Nat:=(List.range n).filter fun j=>decide (g.K j≠0)
theorem mem_ownC {g:CG} {n j:Nat}:j∈ownC g n↔j<n∧g.K j≠0:=by unfold ownC;rw [List.mem_filter,List.mem_range,decide_eq_true_eq]
theorem CFr.toC (a:CFr h h' g g'):HFrame h h' (ownC g h.n) [] :=
 ⟨a.n,a.G,fun j hj hm=>a.get j hj (Decidable.byContradiction fun z=>hm (mem_ownC.2 ⟨hj,z⟩)),fun j hj=>by simp at hj,fun j hj=>by simp at hj⟩
structure Two (h0 h:AHeap) (g:CG) (gr:RI) (m:Cm):Prop where
 f:HFrame h0 h [] []
 q:CellQ h g m
 r:∃ rb,RC h gr rb m
 K:KInv m
 d:∀ j,g.K j≠0→gr.K j=0
 k:∀ j,j<h0.n→g.K j=0∧gr.K j=0
theorem Two.tmp (W:Two h0 h g gr m) {A:List Nat} (F:HFrame h h' [] A):Two h0 h' g gr m:=by
 obtain ⟨rb,R⟩:=W.r
 exact ⟨W.f.trans (Go.Proofs.YthillgheddpmhaaDoor.Pg.HFrame.non F),W.q.keep F,⟨rb,R.keep F⟩,W.K,W.d,W.k⟩
theorem Two.half (W:Two h0 h g gr m) {h1:AHeap} {g1:CG} (F:CFr h h1 g g1):∃ rb,RC h1 gr rb m:=by
 obtain ⟨rb,R⟩:=W.r
 exact ⟨rb,R.keepD F.toC fun j hj hm=>hj (W.d j (mem_ownC.1 hm).2)⟩
theorem Two.step (W:Two h0 h g gr m) {h1 h2:AHeap} {g1:CG} {gr2:RI} {rb2:List (Blk×Nat)} (F:CFr h h1 g g1) (Q:CellQ h1 g1 m') (F2:RFr h1 h2 gr gr2) (R2:RC h2 gr2 rb2 m') (K':KInv m'):Two h0 h2 g1 gr2 m':=by
 obtain ⟨rb,R⟩:=W.r
 have nn:=W.f.n
 have n1:=F.n
 have n2:=F2.n
 have dd:∀ j,g1.K j≠0→gr.K j=0:=fun j hj=>by
  rcases Nat.lt_or_ge j h.n with c | c
  ·exact W.d j (by rw [←F.K j c];exact hj)
  ·exact Decidable.byContradiction fun z=>by have:=R.k0 j z;omega
 refine ⟨⟨by omega,F2.G.trans (F.G.trans W.f.g),fun j hj _=>?_,fun j hj=>by simp at hj,fun j hj=>by simp at hj⟩,Q.keepD F2.toH fun j hj hm=>(mem_ownR.1 hm).2 (dd j hj),⟨rb2,R2⟩,K',fun j hj=>?_,fun j hj=>⟨(F.K j (by omega)).trans (W.k j hj).1,(F2.K j (by omega)).trans (W.k j hj).2⟩⟩
 ·exact (F2.get j (by omega) (W.k j hj).2).trans ((F.get j (by omega) (W.k j hj).1).trans (W.f.get j hj (by simp)))
 ·rcases Nat.lt_or_ge j h1.n with c | c
  ·exact (F2.K j c).trans (dd j hj)
  ·exact absurd (Q.kn c) hj
theorem Two.own (W:Two h0 h g gr m) {A A':List Nat} (F:HFrame h h' A A') (d:∀ j,j∈A→g.K j=0∧gr.K j=0∧h0.n≤j):Two h0 h' g gr m:=by
 obtain ⟨rb,R⟩:=W.r
 exact ⟨⟨Nat.le_trans W.f.n F.n,F.g.trans W.f.g,fun j hj _=>(F.get j (Nat.lt_of_lt_of_le hj W.f.n) (fun hm=>by have:=(d j hm).2.2;omega)).trans (W.f.get j hj (by simp)),fun j hj=>by simp at hj,fun j hj=>by simp at hj⟩,W.q.keepD F fun j hk hm=>hk (d j hm).1,⟨rb,R.keepD F fun j hk hm=>hk (d j hm).2.1⟩,W.K,W.d,W.k⟩
theorem Two.new (W:Two h0 h g gr m) {j:Nat} (hj:h.n≤j):g.K j=0∧gr.K j=0∧h0.n≤j:=by
 obtain ⟨rb,R⟩:=W.r
 exact ⟨W.q.kn hj,Decidable.byContradiction fun z=>by have:=R.k0 j z;omega,by have:=W.f.n;omega⟩
def Apart (h h':AHeap) (g g':CG) (gr gr':RI):Prop:=h.n≤h'.n∧∀ j,j<h.n→g.K j=0→gr.K j=0→h'.get j=h.get j∧g'.K j=0∧gr'.K j=0
theorem apart_mk {h1 h2:AHeap} {A:List Nat} (F0:HFrame h h1 [] A) (F:CFr h1 h2 g g') (F2:RFr h2 h' gr gr'):Apart h h' g g' gr gr':=by
 have n0:=F0.n
 have n1:=F.n
 have n2:=F2.n
 exact ⟨by omega,fun j hj k1 k2=>⟨(F2.get j (by omega) k2).trans ((F.get j (by omega) k1).trans (F0.get j hj (by simp))),(F.K j (by omega)).trans k1,(F2.K j (by omega)).trans k2⟩⟩
def encO4 (o:Int×Int×Int×Int):List AVal:=[.int .i64 o.1,.int .i64 o.2.1,.int .i64 o.2.2.1,.int .i64 o.2.2.2]
theorem alloc_zero (m:Cm) (p w:Int):(m.alloc p w).1.2≠0→(m.alloc p w).1.1=0:=by
 unfold Cm.alloc
 split
 ·exact fun _=>rfl
 ·split
  ·exact fun _=>rfl
  ·split
   ·cases m.fit ((w.toNat+63) / 64) with
    | none=>exact fun _=>rfl
    | some a=>exact fun z=>absurd rfl z
   ·cases m.pick p.toNat (clsOf w.toNat) with
    | mk o m3 =>
     cases o with
     | none=>exact fun _=>rfl
     | some a =>
      simp only
      cases m3.get a with
      | none=>exact fun _=>rfl
      | some b=>exact fun z=>absurd rfl z
theorem alloc_bd (I:CInv m) (hn:m.n≤4096) (p w:Int) (I':CInv (m.alloc p w).2):0≤(m.alloc p w).1.1∧(m.alloc p w).1.1≤1000000:=by
 rcases alloc_use I p w with ⟨z,_⟩ | ⟨z,_,x,s,ex,_,hu,_⟩
 ·rw [alloc_zero m p w z];decide
 ·have:=use_bd I' ((hu x s).2 (.inl ⟨rfl,rfl⟩))
  rw [alloc_n] at this
  omega
theorem pages_bd (hn:m.n≤4096) (k:Int):0≤(m.pages k).1.1∧(m.pages k).1.1≤1000000:=by
 unfold Cm.pages
 split
 ·show (0:Int)≤0∧(0:Int)≤1000000;decide
 ·cases hf:m.fit k.toNat with
  | none=>show (0:Int)≤0∧(0:Int)≤1000000;decide
  | some a =>
   have:=first_lt (by omega) ((fit_some (by omega) (fun q=>f_out m)).1 hf)
   show (0:Int)≤(a:Int)∧(a:Int)≤1000000
   omega
set_option maxHeartbeats 16000000 in
theorem oneC (T0:TabR h0) (W:Two h0 h g gr m) (o:Int×Int×Int×Int) (ho:-9223372036854775808≤o.2.1∧o.2.1≤9223372036854775807):CallP AP 52 [.ptr g.c 0 0,.ptr gr.c 0 0,.agg (encO4 o)] h fun r h'=>∃ g' gr' m' x,Two h0 h' g' gr' m'∧Apart h h' g g' gr gr'∧g'.c=g.c∧gr'.c=gr.c∧0≤x∧x≤1000000∧r=.tup [.int .i64 x,.bool true]:=by
 refine callP (rfl:Tr.get AP 52=some A52) ?_
 generalize hQ:(fun (r:AVal) (h':AHeap)=>_)=Q
 obtain ⟨k,x,w,f⟩:=o
 simp only at ho
 have tt:∀ z:Int,decide (z=z)=true:=fun z=>decide_eq_true rfl
 have fq:=(HFrame.refl (h:=h) (F:=[]) (by simp)).pushTmp (.cells 0 false [.int .i64 k,.int .i64 x,.int .i64 w,.int .i64 f])
 have gq:(h.push (.cells 0 false [.int .i64 k,.int .i64 x,.int .i64 w,.int .i64 f])).get h.n=.cells 0 false [.int .i64 k,.int .i64 x,.int .i64 w,.int .i64 f]:=AHeap.get_push_same _ _
 have nq:(h.push (.cells 0 false [.int .i64 k,.int .i64 x,.int .i64 w,.int .i64 f])).n=h.n+1:=by simp
 have W1:=W.tmp fq
 have kb:g.K h.n=0:=W.q.kn (Nat.le_refl _)
 simp -implicitDefEqProofs (disch:=first|exact dz _|fail) only [↓AM.R0,AM.R1,AM.R2,reduceAdd,reduceLeDiff,reduceEqDiff,reduceToNat,Nat.reduceLT,↓reduceIte,reduceEq,Int.reduceLT,reduceLE,encO4]
 generalize h.push (.cells 0 false [.int .i64 k,.int .i64 x,.int .i64 w,.int .i64 f])=h1 at *
 have T1:TabR h1:=T0.frame W1.f (by simp)
 have l1:h.n<h1.n:=by omega
 by_cases k0:k=0
 ·have d0:decide (k=0)=true:=decide_eq_true k0
  simp -implicitDefEqProofs (disch:=first|exact dz _|fail) only [↓AM.R0,AM.R1,AM.R2,reduceAdd,reduceLeDiff,reduceEqDiff,reduceToNat,Nat.reduceLT,↓reduceIte,reduceEq,Int.reduceLT,reduceLE,gq,d0]
  refine AM.callI_of (allocC T1 W1.q x w) ?_
  rintro r h2 ⟨g2,F2,Q2,rfl⟩
  obtain ⟨rb,R2⟩:=W1.half F2
  have gq2:=(F2.get h.n l1 kb).trans gq
  have l2:h.n<h2.n:=Nat.lt_of_lt_of_le l1 F2.n
  have hn2:=R2.n2
  simp -implicitDefEqProofs (disch:=first|exact dz _|fail) only [↓AM.R0,AM.R1,AM.R2,reduceAdd,reduceLeDiff,reduceEqDiff,reduceToNat,Nat.reduceLT,↓reduceIte,reduceEq,Int.reduceLT,reduceLE,res2,gq2]
  refine AM.callI_of (rAllocC R2 x w) ?_
  rintro r h3 ⟨gr3,rb3,F3,R3,rfl⟩
  have K3:=alloc_kinv' W1.q.inv W1.K x w
  have bd:=alloc_bd W1.q.inv hn2 x w Q2.inv
  simp -implicitDefEqProofs (disch:=first|exact dz _|fail) only [↓AM.R0,AM.R1,AM.R2,reduceAdd,reduceLeDiff,reduceEqDiff,reduceToNat,Nat.reduceLT,↓reduceIte,reduceEq,Int.reduceLT,reduceLE,res2,tt]
  subst hQ
  exact ⟨_,gr3,_,_,W1.step F2 Q2 F3 R3 K3,apart_mk fq F2 F3,F2.c,F3.c,bd.1,bd.2,rfl⟩
 have d0:decide (k=0)=false:=decide_eq_false k0
 by_cases k1:k=1
 ·have d1:decide (k=1)=true:=decide_eq_true k1
  simp -implicitDefEqProofs (disch:=first|exact dz _|fail) only [↓AM.R0,AM.R1,AM.R2,reduceAdd,reduceLeDiff,reduceEqDiff,reduceToNat,Nat.reduceLT,↓reduceIte,reduceEq,Int.reduceLT,reduceLE,gq,d0,d1]
  refine AM.trCall_of (freeC T1 W1.q x ho) ?_
  rintro r h2 ⟨F2,Q2,rfl⟩
  obtain ⟨rb,R2⟩:=W1.half F2
  have gq2:=(F2.get h.n l1 kb).trans gq
  have l2:h.n<h2.n:=Nat.lt_of_lt_of_le l1 F2.n
  simp -implicitDefEqProofs (disch:=first|exact dz _|fail) only [↓AM.R0,AM.R1,AM.R2,reduceAdd,reduceLeDiff,reduceEqDiff,reduceToNat,Nat.reduceLT,↓reduceIte,reduceEq,Int.reduceLT,reduceLE,gq2]
  refine AM.trCall_of (rFreeC R2 W1.K x ho) ?_
  rintro r h3 ⟨gr3,rb3,F3,R3,K3,rfl⟩
  simp -implicitDefEqProofs (disch:=first|exact dz _|fail) only [↓AM.R0,AM.R1,AM.R2,reduceAdd,reduceLeDiff,reduceEqDiff,reduceToNat,Nat.reduceLT,↓reduceIte,reduceEq,Int.reduceLT,reduceLE,tt,gq,gq2]
  subst hQ
  exact ⟨_,gr3,_,0,W1.step F2 Q2 F3 R3 K3,apart_mk fq F2 F3,F2.c,F3.c,by decide,by decide,rfl⟩
 have d1:decide (k=1)=false:=decide_eq_false k1
 by_cases k2:k=2
 ·have d2:decide (k=2)=true:=decide_eq_true k2
  simp -implicitDefEqProofs (disch:=first|exact dz _|fail) only [↓AM.R0,AM.R1,AM.R2,reduceAdd,reduceLeDiff,reduceEqDiff,reduceToNat,Nat.reduceLT,↓reduceIte,reduceEq,Int.reduceLT,reduceLE,gq,d0,d1,d2]
  refine AM.trCall_of (flushC T1 W1.q x) ?_
  rintro r h2 ⟨F2,Q2,rfl⟩
  obtain ⟨rb,R2⟩:=W1.half F2
  have gq2:=(F2.get h.n l1 kb).trans gq
  have l2:h.n<h2.n:=Nat.lt_of_lt_of_le l1 F2.n
  simp -implicitDefEqProofs (disch:=first|exact dz _|fail) only [↓AM.R0,AM.R1,AM.R2,reduceAdd,reduceLeDiff,reduceEqDiff,reduceToNat,Nat.reduceLT,↓reduceIte,reduceEq,Int.reduceLT,reduceLE,gq2]
  refine AM.trCall_of (rFlushC R2 W1.K x) ?_
  rintro r h3 ⟨gr3,rb3,F3,R3,K3,rfl⟩
  simp -implicitDefEqProofs (disch:=first|exact dz _|fail) only [↓AM.R0,AM.R1,AM.R2,reduceAdd,reduceLeDiff,reduceEqDiff,reduceToNat,Nat.reduceLT,↓reduceIte,reduceEq,Int.reduceLT,reduceLE,tt,gq,gq2]
  subst hQ
  exact ⟨_,gr3,_,0,W1.step F2 Q2 F3 R3 K3,apart_mk fq F2 F3,F2.c,F3.c,by decide,by decide,rfl⟩
 have d2:decide (k=2)=false:=decide_eq_false k2
 by_cases k3:k=3
 ·have d3:decide (k=3)=true:=decide_eq_true k3
  simp -implicitDefEqProofs (disch:=first|exact dz _|fail) only [↓AM.R0,AM.R1,AM.R2,reduceAdd,reduceLeDiff,reduceEqDiff,reduceToNat,Nat.reduceLT,↓reduceIte,reduceEq,Int.reduceLT,reduceLE,gq,d0,d1,d2,d3]
  refine AM.callI_of (pagesQ T1 W1.q w) ?_
  rintro r h2 ⟨F2,Q2,rfl⟩
  obtain ⟨rb,R2⟩:=W1.half F2
  have gq2:=(F2.get h.n l1 kb).trans gq
  have l2:h.n<h2.n:=Nat.lt_of_lt_of_le l1 F2.n
  have hn2:=R2.n2
  simp -implicitDefEqProofs (disch:=first|exact dz _|fail) only [↓AM.R0,AM.R1,AM.R2,reduceAdd,reduceLeDiff,reduceEqDiff,reduceToNat,Nat.reduceLT,↓reduceIte,reduceEq,Int.reduceLT,reduceLE,res2,gq2]
  refine AM.callI_of (rPagesC R2 W1.K w) ?_
  rintro r h3 ⟨gr3,rb3,F3,R3,K3,rfl⟩
  have bd:=pages_bd hn2 w
  simp -implicitDefEqProofs (disch:=first|exact dz _|fail) only [↓AM.R0,AM.R1,AM.R2,reduceAdd,reduceLeDiff,reduceEqDiff,reduceToNat,Nat.reduceLT,↓reduceIte,reduceEq,Int.reduceLT,reduceLE,res2,tt]
  subst hQ
  exact ⟨_,gr3,_,_,W1.step F2 Q2 F3 R3 K3,apart_mk fq F2 F3,F2.c,F3.c,bd.1,bd.2,rfl⟩
 have d3:decide (k=3)=false:=decide_eq_false k3
 by_cases k4:k=4
 ·have d4:decide (k=4)=true:=decide_eq_true k4
  simp -implicitDefEqProofs (disch:=first|exact dz _|fail) only [↓AM.R0,AM.R1,AM.R2,reduceAdd,reduceLeDiff,reduceEqDiff,reduceToNat,Nat.reduceLT,↓reduceIte,reduceEq,Int.reduceLT,reduceLE,gq,d0,d1,d2,d3,d4]
  refine AM.trCall_of (giveC T1 W1.q x) ?_
  rintro r h2 ⟨F2,Q2,rfl⟩
  obtain ⟨rb,R2⟩:=W1.half F2
  have gq2:=(F2.get h.n l1 kb).trans gq
  have l2:h.n<h2.n:=Nat.lt_of_lt_of_le l1 F2.n
  simp -implicitDefEqProofs (disch:=first|exact dz _|fail) only [↓AM.R0,AM.R1,AM.R2,reduceAdd,reduceLeDiff,reduceEqDiff,reduceToNat,Nat.reduceLT,↓reduceIte,reduceEq,Int.reduceLT,reduceLE,gq2]
  refine AM.trCall_of (rGiveC R2 W1.K x) ?_
  rintro r h3 ⟨gr3,rb3,F3,R3,K3,rfl⟩
  simp -implicitDefEqProofs (disch:=first|exact dz _|fail) only [↓AM.R0,AM.R1,AM.R2,reduceAdd,reduceLeDiff,reduceEqDiff,reduceToNat,Nat.reduceLT,↓reduceIte,reduceEq,Int.reduceLT,reduceLE,tt,gq,gq2]
  subst hQ
  exact ⟨_,gr3,_,0,W1.step F2 Q2 F3 R3 K3,apart_mk fq F2 F3,F2.c,F3.c,by decide,by decide,rfl⟩
 have d4:decide (k=4)=false:=decide_eq_false k4
 simp -implicitDefEqProofs (disch:=first|exact dz _|fail) only [↓AM.R0,AM.R1,AM.R2,reduceAdd,reduceLeDiff,reduceEqDiff,reduceToNat,Nat.reduceLT,↓reduceIte,reduceEq,Int.reduceLT,reduceLE,gq,d0,d1,d2,d3,d4]
 subst hQ
 exact ⟨g,gr,m,0,W1,⟨fq.n,fun j hj a b=>⟨fq.get j hj (by simp),a,b⟩⟩,rfl,rfl,by decide,by decide,rfl⟩
end Go.Proofs.YthillgheddpmhaaDoor.Pg
namespace Go.Proofs.YthillgheddpmhaaDoor.Pg
open Go Go.AM Go.Proofs.YthillgheddpmhaaDoor.AmGJ
open Nat (reduceAdd reduceLeDiff reduceEqDiff)
open Int (reduceToNat reduceEq reduceLE)
attribute [local irreducible] pc
theorem wrap_tdiv {u:Int} (h:-9223372036854775808≤u∧u≤9223372036854775807):IntKind.i64.wrap (u.tdiv 64)=u.tdiv 64∧-9223372036854775808≤u.tdiv 64∧u.tdiv 64≤9223372036854775807:=by
 have:-9223372036854775808≤u.tdiv 64∧u.tdiv 64≤9223372036854775807:=by
  rcases Int.lt_or_le u 0 with c | c
  ·obtain ⟨n,rfl⟩:∃ n:Nat,u=-(n:Int):=⟨(-u).toNat,by omega⟩
   have e:(-(n:Int)).tdiv 64=-((n / 64:Nat):Int):=by rw [Int.neg_tdiv];rfl
   rw [e];omega
  ·obtain ⟨n,rfl⟩:∃ n:Nat,u=(n:Int):=⟨u.toNat,by omega⟩
   have e:((n:Int)).tdiv 64=((n / 64:Nat):Int):=rfl
   rw [e];omega
 exact ⟨wrap64 this.1 this.2,this⟩
theorem encC_shape (o:Option (Blk×Nat)):∃ a b c,encC o=.tup [.int .i64 a,.int .i64 b,.bool c]:=by
 cases o with
 | none=>exact ⟨_,_,_,rfl⟩
 | some p=>exact ⟨_,_,_,rfl⟩
def encQ (x:Int):List AVal:=[.int .i64 x]
abbrev z4:List AVal:=[.int .i64 0,.int .i64 0,.int .i64 0,.int .i64 0]
set_option maxHeartbeats 32000000 in
theorem lawCellPlays {h:AHeap} (T:TabR h) {v2:AVal} {os:List (Int×Int×Int×Int)} (s2:SlIn h 4 encO4 v2 os) (hl2:os.length≤68719476736)
  (hos:∀ o,o∈os→(-9223372036854775808≤o.2.1∧o.2.1≤9223372036854775807)∧-9223372036854775808≤o.2.2.1∧o.2.2.1≤9223372036854775807) (n p:Int) :
  CallP AP 13 [.int .i64 n,.int .i64 p,v2] h fun r h'=>HFrame h h' [] []∧r=.bool true:=by
 refine callP (rfl:Tr.get AP 13=some A13) ?_
 generalize hQ:(fun (r:AVal) (h':AHeap)=>_)=Q
 have tt:∀ z:Int,decide (z=z)=true:=fun z=>decide_eq_true rfl
 have bt:(true==true)=true:=rfl
 have bf:(false==false)=true:=rfl
 simp -implicitDefEqProofs (disch:=first|exact dz _|fail) only [↓AM.R0,AM.R1,AM.R2,reduceAdd,reduceLeDiff,reduceEqDiff,reduceToNat,Nat.reduceLT,↓reduceIte,reduceEq,Int.reduceLT,reduceLE]
 refine AM.callI_of (newC T n p) ?_
 rintro r h1 (⟨c,f1,rfl⟩ | ⟨p1,p2,n1,n2,g,f1,k1,Q1,rfl⟩)
 ·simp -implicitDefEqProofs (disch:=first|exact dz _|fail) only [↓AM.R0,AM.R1,AM.R2,reduceAdd,reduceLeDiff,reduceEqDiff,reduceToNat,Nat.reduceLT,↓reduceIte,reduceEq,Int.reduceLT,reduceLE]
  refine AM.callI_of (rNewC n p) ?_
  rintro r h2 (⟨_,f2,rfl⟩ | ⟨c1,c2,c3,c4,_⟩)
  rotate_left
  ·exact absurd ⟨c1,c2,c3,c4⟩ c
  simp -implicitDefEqProofs (disch:=first|exact dz _|fail) only [↓AM.R0,AM.R1,AM.R2,reduceAdd,reduceLeDiff,reduceEqDiff,reduceToNat,Nat.reduceLT,↓reduceIte,reduceEq,Int.reduceLT,reduceLE]
  refine AM.callI_of (awakeC ((T.frame f1 (by simp)).frame f2 (by simp))) ?_
  rintro r h3 ⟨f3,rfl⟩
  simp -implicitDefEqProofs (disch:=first|exact dz _|fail) only [↓AM.R0,AM.R1,AM.R2,reduceAdd,reduceLeDiff,reduceEqDiff,reduceToNat,Nat.reduceLT,↓reduceIte,reduceEq,Int.reduceLT,reduceLE,bt]
  subst hQ
  exact ⟨(f1.trans f2).trans f3,rfl⟩
 simp -implicitDefEqProofs (disch:=first|exact dz _|fail) only [↓AM.R0,AM.R1,AM.R2,reduceAdd,reduceLeDiff,reduceEqDiff,reduceToNat,Nat.reduceLT,↓reduceIte,reduceEq,Int.reduceLT,reduceLE]
 refine AM.callI_of (rNewC n p) ?_
 rintro r h2 (⟨c,_⟩ | ⟨_,_,_,_,gr,f2,k2,R2,rfl⟩)
 ·exact absurd ⟨p1,p2,n1,n2⟩ c
 simp -implicitDefEqProofs (disch:=first|exact dz _|fail) only [↓AM.R0,AM.R1,AM.R2,reduceAdd,reduceLeDiff,reduceEqDiff,reduceToNat,Nat.reduceLT,↓reduceIte,reduceEq,Int.reduceLT,reduceLE]
 refine AM.callI_of (awakeC ((T.frame f1 (by simp)).frame f2 (by simp))) ?_
 rintro r h3 ⟨f3,rfl⟩
 have W2:Two h h2 g gr (Cm.zero n.toNat p.toNat):=⟨f1.trans f2,Q1.keep f2,⟨[],R2⟩,fun b hb=>by simp [Cm.zero] at hb,fun j hj=>Decidable.byContradiction fun z=>hj (Q1.kn (k2 j z)),fun j hj=>⟨Decidable.byContradiction fun z=>by have:=k1 j z;omega,Decidable.byContradiction fun z=>by have:=k2 j z;have:=f1.n;omega⟩⟩
 have W3:=W2.tmp f3
 obtain ⟨c,hc⟩:∃ c,g.c=c:=⟨_,rfl⟩
 obtain ⟨cr,hcr⟩:∃ c,gr.c=c:=⟨_,rfl⟩
 rw [hc,hcr]
 simp -implicitDefEqProofs (disch:=first|exact dz _|fail) only [↓AM.R0,AM.R1,AM.R2,reduceAdd,reduceLeDiff,reduceEqDiff,reduceToNat,Nat.reduceLT,↓reduceIte,reduceEq,Int.reduceLT,reduceLE,bf,s2.len]
 refine AM.loopI_of (fun k e h'=>∃ (i:Nat) (m:Cm) (g:CG) (gr:RI) (l:List Int) (sv:AVal) (G:List Nat),k+i=os.length∧e.val 7=.ptr c 0 0∧e.val 9=.ptr cr 0 0∧e.val 11=sv∧e.val 58=v2∧e.val 59=.int .i64 (os.length:Int)∧e.val 60=.int .i64 (i:Int) ∧
  g.c=c∧gr.c=cr∧Two h h' g gr m∧SlOf h' 1 encQ sv l G∧(∀ j,j∈G→g.K j=0∧gr.K j=0∧h.n≤j)∧(∀ x,x∈l→0≤x∧x≤1000000)∧l.length≤i) os.length ?_ ?_
 ·refine ⟨0,Cm.zero n.toNat p.toNat,g,gr,[],.nils,[],by omega,?_,?_,?_,?_,?_,?_,hc,hcr,W3,SlOf.nil,by simp,by simp,by simp⟩<;>(simp -implicitDefEqProofs (disch:=first|exact dz _|fail) only [↓AM.R0,AM.R1,AM.R2,reduceAdd,reduceLeDiff,reduceEqDiff,reduceToNat,Nat.reduceLT,↓reduceIte,reduceEq,Int.reduceLT,reduceLE])<;>rfl
 clear W2 W3 f1 f2 f3 hc hcr k1 k2 Q1 R2
 clear g gr
 rintro k e h3 ⟨i,m,g,gr,l,sv,G,hk,y7,y9,y11,y58,y59,y60,hc,hcr,W,so3,dG,hl,hli⟩
 have T3:TabR h3:=T.frame W.f (by simp)
 simp -implicitDefEqProofs (disch:=first|exact dz _|fail) only [↓AM.R0,AM.R1,AM.R2,reduceAdd,reduceLeDiff,reduceEqDiff,reduceToNat,Nat.reduceLT,↓reduceIte,reduceEq,Int.reduceLT,reduceLE,y59,y60]
 refine AM.cI_bool (fun hb=>?_) (fun hb=>?_)
 rotate_left
 ·simp -implicitDefEqProofs (disch:=first|exact dz _|fail) only [↓AM.R0,AM.R1,AM.R2,reduceAdd,reduceLeDiff,reduceEqDiff,reduceToNat,Nat.reduceLT,↓reduceIte,reduceEq,Int.reduceLT,reduceLE]
  subst hQ
  exact ⟨W.f,rfl⟩
 simp only [decide_eq_true_eq] at hb
 obtain ⟨o,ho⟩:∃ x,os[i]?=some x:=⟨_,List.getElem?_eq_getElem (by omega)⟩
 obtain ⟨hpl,hwd⟩:=hos o (List.mem_of_getElem? ho)
 obtain ⟨kd,pl,wd,of_⟩:=o
 simp only at hpl hwd
 obtain ⟨id,g',off,vs,ro,x1,x2,x3,x4,x5⟩:=((s2.keep W.f).rd ho).ix (fun _=>rfl) ho .i64
 have hx4:off+4≤vs.length:=x4
 have f5:=((HFrame.refl (h:=h3) (F:=[]) (by simp)).pushTmp (.cells 0 false z4)).setTmp (i:=h3.n) (Nat.le_refl _) (.cells 0 false (encO4 (kd,pl,wd,of_)))
 have g5:((h3.push (.cells 0 false z4)).set h3.n (.cells 0 false (encO4 (kd,pl,wd,of_)))).get h3.n=.cells 0 false (encO4 (kd,pl,wd,of_)):=AHeap.get_set_same _ _ _
 have n5:((h3.push (.cells 0 false z4)).set h3.n (.cells 0 false (encO4 (kd,pl,wd,of_)))).n=h3.n+1:=by simp
 simp only [encO4] at f5 g5 n5
 simp -implicitDefEqProofs (disch:=first|exact dz _|fail) only [AM.RGB,↓AM.R0,AM.R1,AM.R2,reduceAdd,reduceLeDiff,reduceEqDiff,reduceToNat,Nat.reduceLT,↓reduceIte,reduceEq,Int.reduceLT,reduceLE,y58,y60,y11,x1,x2,x4,x5,encO4,so3.len]
 generalize (h3.push (.cells 0 false z4)).set h3.n (.cells 0 false [.int .i64 kd,.int .i64 pl,.int .i64 wd,.int .i64 of_])=h5 at *
 have W5:=W.tmp f5
 have so5:=so3.frame f5.n fun j hj=>f5.get j (so3.lt j hj) (by simp)
 have l5:h3.n<h5.n:=by omega
 refine AM.cI_cut (fun e' h'=>∃ x:Int,(-9223372036854775808≤x∧x≤9223372036854775807)∧h'.get h3.n=.cells 0 false [.int .i64 kd,.int .i64 x,.int .i64 wd,.int .i64 of_]∧HFrame h3 h' [] []∧h'.n=h3.n+1∧e'.val 7=.ptr c 0 0∧e'.val 9=.ptr cr 0 0∧e'.val 11=sv∧e'.val 13=.ptr h3.n 0 0∧e'.val 58=v2∧e'.val 59=.int .i64 (os.length:Int)∧e'.val 60=.int .i64 (i:Int)) ?_ ?_
 rotate_left
 ·refine AM.cI_bool (fun hd=>?_) (fun hd=>?_)
  ·simp only [Bool.and_eq_true,decide_eq_true_eq] at hd
   obtain ⟨⟨_,hd1⟩,hd2⟩:=hd
   obtain ⟨of_,rfl⟩:∃ a:Nat,of_=a:=⟨of_.toNat,by omega⟩
   obtain ⟨x,hx⟩:∃ x,l[of_]?=some x:=⟨_,List.getElem?_eq_getElem (by omega)⟩
   have hxb:=hl x (List.mem_of_getElem? hx)
   obtain ⟨ia,ga,oa,va,ro,z1,z2,z3,z4⟩:=SlRd.ix1 (enc:=fun x:Int=>AVal.int .i64 x) so5.rd hx .i64
   simp -implicitDefEqProofs (disch:=first|exact dz _|fail) only [↓AM.R0,AM.R1,AM.R2,reduceAdd,reduceLeDiff,reduceEqDiff,reduceToNat,Nat.reduceLT,↓reduceIte,reduceEq,Int.reduceLT,reduceLE,y7,y9,y11,y58,y59,y60,g5,z1,z2,z3,z4]
   refine ⟨x,⟨by omega,by omega⟩,rfl,f5.setTmp (Nat.le_refl _) _,?_⟩
   simpa using n5
  ·simp -implicitDefEqProofs (disch:=first|exact dz _|fail) only [↓AM.R0,AM.R1,AM.R2,reduceAdd,reduceLeDiff,reduceEqDiff,reduceToNat,Nat.reduceLT,↓reduceIte,reduceEq,Int.reduceLT,reduceLE,y7,y9,y11,y58,y59,y60]
   exact ⟨pl,hpl,g5,f5,n5⟩
 clear W5 so5 y7 y9 y11 y58 y59 y60 x1 x2 x3 x4 x5 g5 n5 l5 f5 hx4
 clear h5
 rintro e h6 ⟨x,hx,g6,f6,n6,y7,y9,y11,y13,y58,y59,y60⟩
 have W6:=W.tmp f6
 have so6:=so3.frame f6.n fun j hj=>f6.get j (so3.lt j hj) (by simp)
 have l6:h3.n<h6.n:=by omega
 have kb:=W.new (Nat.le_refl h3.n)
 simp -implicitDefEqProofs (disch:=first|exact dz _|fail) only [↓AM.R0,AM.R1,AM.R2,reduceAdd,reduceLeDiff,reduceEqDiff,reduceToNat,Nat.reduceLT,↓reduceIte,reduceEq,Int.reduceLT,reduceLE,y7,y9,y13,g6]
 rw [←hc,←hcr]
 refine AM.callI_of (oneC T W6 (kd,x,wd,of_) hx) ?_
 rintro r h7 ⟨g7,gr7,m7,at_,W7,A7,hc7,hcr7,a1,a2,rfl⟩
 rw [hc] at hc7
 rw [hcr] at hcr7
 have n7:=A7.1
 obtain ⟨g7o,kb1,kb2⟩:=A7.2 h3.n l6 kb.1 kb.2.1
 rw [g6] at g7o
 have so7:=so6.frame A7.1 fun j hj=>(A7.2 j (so6.lt j hj) (dG j hj).1 (dG j hj).2.1).1
 have dG7:∀ j,j∈G→g7.K j=0∧gr7.K j=0∧h.n≤j:=fun j hj=>by
  have:=A7.2 j (so6.lt j hj) (dG j hj).1 (dG j hj).2.1
  exact ⟨this.2.1,this.2.2,(dG j hj).2.2⟩
 have nG:h3.n ∉ G:=fun hm=>by have:=so3.lt _ hm;omega
 have l7:h3.n<h7.n:=by omega
 clear W W6 so3 so6 dG kb g6 A7 f6 n6
 simp -implicitDefEqProofs (disch:=first|exact dz _|fail) only [AM.RGB,↓AM.R0,AM.R1,AM.R2,reduceAdd,reduceLeDiff,reduceEqDiff,reduceToNat,Nat.reduceLT,↓reduceIte,reduceEq,Int.reduceLT,reduceLE,y7,y9,y11,y13,y58,y59,y60,g7o]
 refine AM.cI_cut (fun e' h'=>∃ (l':List Int) (sv':AVal) (G':List Nat),Two h h' g7 gr7 m7∧SlOf h' 1 encQ sv' l' G'∧(∀ j,j∈G'→g7.K j=0∧gr7.K j=0∧h.n≤j)∧(∀ x,x∈l'→0≤x∧x≤1000000)∧l'.length≤i+1∧h'.get h3.n=.cells 0 false [.int .i64 kd,.int .i64 x,.int .i64 wd,.int .i64 of_]∧h3.n<h'.n ∧
  e'.val 7=.ptr c 0 0∧e'.val 9=.ptr cr 0 0∧e'.val 11=sv'∧e'.val 13=.ptr h3.n 0 0∧e'.val 14=.int .i64 at_∧e'.val 58=v2∧e'.val 59=.int .i64 (os.length:Int)∧e'.val 60=.int .i64 (i:Int)) ?_ ?_
 rotate_left
 ·refine AM.cI_bool (fun hd=>?_) (fun hd=>?_)
  ·simp -implicitDefEqProofs (disch:=first|exact dz _|fail) only [↓AM.R0,AM.R1,AM.R2,reduceAdd,reduceLeDiff,reduceEqDiff,reduceToNat,Nat.reduceLT,↓reduceIte,reduceEq,Int.reduceLT,reduceLE,y7,y9,y11,y13,y58,y59,y60]
   refine AM.opI_of (SlOf.app1 (enc:=encQ) so7 (fun _=>rfl) (fun _=>rfl) (by omega) at_ fun sv' h8 G8 so8 f8=>?_)
   simp -implicitDefEqProofs (disch:=first|exact dz _|fail) only [↓AM.R0,AM.R1,AM.R2,reduceAdd,reduceLeDiff,reduceEqDiff,reduceToNat,Nat.reduceLT,↓reduceIte,reduceEq,Int.reduceLT,reduceLE,y7,y9,y11,y13,y58,y59,y60]
   refine ⟨l++[at_],sv',G8,W7.own f8 dG7,so8,fun j hj=>?_,fun y hy=>?_,by simp;omega,(f8.get _ l7 nG).trans g7o,by have:=f8.n;omega,rfl⟩
   ·rcases f8.new j hj with z | z
    ·exact dG7 j z
    ·exact W7.new z
   ·rcases List.mem_append.1 hy with z | z
    ·exact hl y z
    ·obtain rfl:y=at_:=by simpa using z
     exact ⟨a1,a2⟩
  ·simp -implicitDefEqProofs (disch:=first|exact dz _|fail) only [↓AM.R0,AM.R1,AM.R2,reduceAdd,reduceLeDiff,reduceEqDiff,reduceToNat,Nat.reduceLT,↓reduceIte,reduceEq,Int.reduceLT,reduceLE,y7,y9,y11,y13,y58,y59,y60]
   exact ⟨l,sv,G,W7,so7,dG7,hl,by omega,g7o,l7,rfl⟩
 clear W7 so7 dG7 y7 y9 y11 y13 y58 y59 y60 hl hli nG g7o l7 n7
 clear h7
 clear G l
 rintro e h8 ⟨l,sv,G,W8,so8,dG,hl,hli,g8,l8,y7,y9,y11,y13,y14,y58,y59,y60⟩
 have wa:IntKind.i64.wrap (at_+1)=at_+1:=wrap64 (by omega) (by omega)
 simp -implicitDefEqProofs (disch:=first|exact dz _|fail) only [↓AM.R0,AM.R1,AM.R2,reduceAdd,reduceLeDiff,reduceEqDiff,reduceToNat,Nat.reduceLT,↓reduceIte,reduceEq,Int.reduceLT,reduceLE,y13,y14,g8,wa,AM.a_buildSlice,List.range,List.range.loop,List.getD_cons_zero,Nat.mod_one]
 have fs:=(HFrame.refl (h:=h8) (F:=[]) (by simp)).pushTmp (.cells 0 false [.int .i64 at_,.int .i64 (at_+1),.int .i64 x])
 have gs:(h8.push (.cells 0 false [.int .i64 at_,.int .i64 (at_+1),.int .i64 x])).get h8.n=.cells 0 false [.int .i64 at_,.int .i64 (at_+1),.int .i64 x]:=AHeap.get_push_same _ _
 have ns:(h8.push (.cells 0 false [.int .i64 at_,.int .i64 (at_+1),.int .i64 x])).n=h8.n+1:=by simp
 generalize h8.push (.cells 0 false [.int .i64 at_,.int .i64 (at_+1),.int .i64 x])=h9 at *
 have W9:=W8.tmp fs
 have so9:=so8.frame fs.n fun j hj=>fs.get j (so8.lt j hj) (by simp)
 have l9:h8.n<h9.n:=by omega
 clear W8 so8 g8 l8 fs
 refine AM.loopI_of (fun k e hh=>∃ y:Nat,k+y=3∧HFrame h9 hh [] []∧e.val 7=.ptr c 0 0∧e.val 9=.ptr cr 0 0∧e.val 11=sv∧e.val 58=v2∧e.val 59=.int .i64 (os.length:Int)∧e.val 60=.int .i64 (i:Int)∧e.val 116=.sl h8.n 0 0 3 1∧e.val 117=.int .i64 3∧e.val 118=.int .i64 (y:Int)) 3 ?_ ?_
 ·refine ⟨0,by omega,HFrame.refl (by simp),?_,?_,?_,?_,?_,?_,?_,?_,?_⟩<;>(simp -implicitDefEqProofs (disch:=first|exact dz _|fail) only [↓AM.R0,AM.R1,AM.R2,reduceAdd,reduceLeDiff,reduceEqDiff,reduceToNat,Nat.reduceLT,↓reduceIte,reduceEq,Int.reduceLT,reduceLE,y7,y9,y11,y58,y59,y60])<;>rfl
 clear y7 y9 y11 y13 y14 y58 y59 y60
 rintro k2 e hA ⟨y,hk2,FA,y7,y9,y11,y58,y59,y60,y116,y117,y118⟩
 have WA:=W9.tmp FA
 have lA:h8.n<hA.n:=Nat.lt_of_lt_of_le l9 FA.n
 have gA:=(FA.get h8.n l9 (by simp)).trans gs
 have WAq:=WA.q
 obtain ⟨ws,lv,bs,RA⟩:=WAq
 obtain ⟨rbA,QA⟩:=WA.r
 have bds:=RA.bds
 simp -implicitDefEqProofs (disch:=first|exact dz _|fail) only [↓AM.R0,AM.R1,AM.R2,reduceAdd,reduceLeDiff,reduceEqDiff,reduceToNat,Nat.reduceLT,↓reduceIte,reduceEq,Int.reduceLT,reduceLE,y117,y118]
 refine AM.cI_bool (fun hd=>?_) (fun hd=>?_)
 ·simp only [decide_eq_true_eq] at hd
  have hy:y<3:=by omega
  obtain ⟨u,hu,hub⟩:∃ u:Int,([.int .i64 at_,.int .i64 (at_+1),.int .i64 x]:List AVal)[y]?=some (.int .i64 u)∧-9223372036854775808≤u∧u≤9223372036854775807:=by
   have:y=0∨y=1∨y=2:=by omega
   rcases this with rfl | rfl | rfl
   ·exact ⟨at_,rfl,by omega,by omega⟩
   ·exact ⟨at_+1,rfl,by omega,by omega⟩
   ·exact ⟨x,rfl,hx⟩
  have xb:=ix1 gA (len:=3) (i:=y) hy
  have wy:IntKind.i64.wrap ((y:Int)+1)=((y+1:Nat):Int):=(wrap64 (by omega) (by omega)).trans (by omega)
  obtain ⟨wu,hub2⟩:=wrap_tdiv hub
  simp -implicitDefEqProofs (disch:=first|exact dz _|fail) only [↓AM.R0,AM.R1,AM.R2,reduceAdd,reduceLeDiff,reduceEqDiff,reduceToNat,Nat.reduceLT,↓reduceIte,reduceEq,Int.reduceLT,reduceLE,y7,y9,y116,y118,xb,gA,hu]
  rw [←hc7]
  refine AM.callI_of (findC RA u hub) ?_
  rintro r hB ⟨FB,rfl⟩
  obtain ⟨fa,fb,fc,hF⟩:=encC_shape (m7.cell u)
  rw [hF,hc7]
  simp -implicitDefEqProofs (disch:=first|exact dz _|fail) only [↓AM.R0,AM.R1,AM.R2,reduceAdd,reduceLeDiff,reduceEqDiff,reduceToNat,Nat.reduceLT,↓reduceIte,reduceEq,Int.reduceLT,reduceLE,y7,y9,y116,y118]
  rw [←hcr7]
  refine AM.callI_of (rFindC (QA.keep FB) u hub) ?_
  rintro r hC ⟨FC,rfl⟩
  rw [hF,hcr7]
  have bb:(fc==fc)=true:=by simp
  simp -implicitDefEqProofs (disch:=first|exact dz _|fail) only [↓AM.R0,AM.R1,AM.R2,reduceAdd,reduceLeDiff,reduceEqDiff,reduceToNat,Nat.reduceLT,↓reduceIte,reduceEq,Int.reduceLT,reduceLE,y7,y9,y116,y118,tt,bb,wu]
  rw [←hc7]
  refine AM.callI_of (usedC ⟨ws,lv,bs,(RA.keep FB).keep FC⟩ (u.tdiv 64)) ?_
  rintro r hD ⟨FD,rfl⟩
  rw [hc7]
  simp -implicitDefEqProofs (disch:=first|exact dz _|fail) only [↓AM.R0,AM.R1,AM.R2,reduceAdd,reduceLeDiff,reduceEqDiff,reduceToNat,Nat.reduceLT,↓reduceIte,reduceEq,Int.reduceLT,reduceLE,y7,y9,y116,y118,tt,bb,wu]
  rw [←hcr7]
  refine AM.callI_of (rIsUsed (((QA.keep FB).keep FC).keep FD) (u.tdiv 64) hub2) ?_
  rintro r hE ⟨FE,rfl⟩
  have bb2:((findF m7.L (u.tdiv 64)).isSome==(findF m7.L (u.tdiv 64)).isSome)=true:=by simp
  simp -implicitDefEqProofs (disch:=first|exact dz _|fail) only [↓AM.R0,AM.R1,AM.R2,reduceAdd,reduceLeDiff,reduceEqDiff,reduceToNat,Nat.reduceLT,↓reduceIte,reduceEq,Int.reduceLT,reduceLE,y7,y9,y11,y58,y59,y60,y116,y117,y118,tt,bb,bb2,wy]
  exact ⟨k2-1,by omega,y+1,by omega,(((FA.trans FB).trans FC).trans FD).trans FE,by rw [hcr7],rfl⟩
 ·simp -implicitDefEqProofs (disch:=first|exact dz _|fail) only [↓AM.R0,AM.R1,AM.R2,reduceAdd,reduceLeDiff,reduceEqDiff,reduceToNat,Nat.reduceLT,↓reduceIte,reduceEq,Int.reduceLT,reduceLE,y7,y9]
  rw [←hc7]
  refine AM.callI_of (countsC ⟨ws,lv,bs,RA⟩) ?_
  rintro r hB ⟨FB,rfl⟩
  rw [hc7]
  simp -implicitDefEqProofs (disch:=first|exact dz _|fail) only [↓AM.R0,AM.R1,AM.R2,reduceAdd,reduceLeDiff,reduceEqDiff,reduceToNat,Nat.reduceLT,↓reduceIte,reduceEq,Int.reduceLT,reduceLE,y7,y9]
  rw [←hcr7]
  refine AM.callI_of (rCountsC (QA.keep FB) bds.1 bds.2) ?_
  rintro r hC ⟨FC,rfl⟩
  have w1:IntKind.i64.wrap ((i:Int)+1)=((i+1:Nat):Int):=(wrap64 (by omega) (by omega)).trans (by omega)
  rw [hcr7]
  simp -implicitDefEqProofs (disch:=first|exact dz _|fail) only [↓AM.R0,AM.R1,AM.R2,reduceAdd,reduceLeDiff,reduceEqDiff,reduceToNat,Nat.reduceLT,↓reduceIte,reduceEq,Int.reduceLT,reduceLE,y7,y9,y11,y58,y59,y60,tt,w1]
  have FAC:=(FA.trans FB).trans FC
  exact ⟨k-1,by omega,i+1,m7,g7,gr7,l,sv,G,by omega,by rw [hc],by rw [hcr],rfl,rfl,hc7.trans hc.symm,hcr7.trans hcr.symm,W9.tmp FAC,so9.frame FAC.n fun j hj=>FAC.get j (so9.lt j hj) (by simp),dG,hl,hli⟩
end Go.Proofs.YthillgheddpmhaaDoor.Pg