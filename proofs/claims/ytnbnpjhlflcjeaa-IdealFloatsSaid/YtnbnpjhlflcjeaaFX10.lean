/-
 What the functions of this seat do,on the machine: lemmas for the laws.
-/
import Derived.Test.YtnbnpjhlflcjeaaFX6
import Derived.Test.YtnbnpjhlflcjeaaFX9
set_option linter.unusedSimpArgs false
set_option linter.unusedVariables false
set_option maxRecDepth 100000
attribute [local irreducible] Go.AM.wp Go.AM.wpIs Go.AM.wpTr Go.AM.opI Go.AM.gI Go.AM.cI Go.AM.trI Go.AM.callI Go.AM.fnI Go.AM.yldI Go.AM.rangeI Go.AM.rangeC Go.AM.YldP Go.AM.asgQ Go.AM.roundQ Go.AM.rangeQ Go.AM.trG Go.AM.trOp Go.AM.trCall Go.AM.seqC Go.AM.loopI
namespace Go.Proofs.Ytnbnpjhlflcjeaa.Id
open Go Go.AM Go.Proofs.Ytnbnpjhlflcjeaa.AmGF
open Nat renaming reduceAdd → qA,reduceLeDiff → qB,reduceEqDiff → qC,reduceLT → qE
open Int renaming reduceToNat → qD,reduceEq → qG,reduceLT → qH,reduceLE → qI
section
variable {h0 h h':AHeap} {K:Nat→Tag} {γ:GI} {R:Run}
theorem Ow.put {α:Type} {enc:α→AVal} {t:Tag} {v:AVal} {l:List α} (s:Ow h K t 1 (fun a=>[enc a]) v l) {x:Int} {w0:α} (hi:at? l x=some w0) :
  ∃ id g o vs,K id=t∧h.get id=.cells g false vs∧id<h.n∧(∀ k:IntKind,ixV h 1 v (.int k x)=some (.ptr id g o,h))∧vs[o]?=some (enc w0)∧o+1≤vs.length ∧
   ∀ w,Chg (·=t) h (h.set id (.cells g false (vs.take o++[enc w]++vs.drop (o+1)))) K K∧Ow (h.set id (.cells g false (vs.take o++[enc w]++vs.drop (o+1)))) K t 1 (fun a=>[enc a]) v (l.set x.toNat w):=by
 obtain ⟨h0,h1,h2⟩:=at?_nat hi
 obtain ⟨id,g,off,vs,e1,e2,e3,e4,e5,e6,e7,e8⟩:=s.at1 h1
 have ea:((x.toNat:Nat):Int)=x:=by omega
 rw [ea] at e5
 exact ⟨id,g,off+x.toNat,vs,e2,e3,e4,e5,e6,e7,fun w=>⟨(Chg.refl (·=t) h K).set (fun _=>e2) _,e8 _ w (Nat.le_refl _) (AHeap.get_set_same _ _ _)⟩⟩
theorem RunP.put (P:RunP h γ R) {k j i:Nat} {r:Routine} {f:Frame} {x:Nat×List Nat} (a:At h γ R k j r f x i) {sv iv lv vv:AVal} {la:List (Int×AVal)} (q:FrV h γ.K k j i f sv iv lv vv la) {z w:Int} {R':Run} (hp:R.put k j z w=some R') :
  ∃ id g o vs,h.get id=.cells g false vs∧id<h.n∧(∀ k:IntKind,ixV h 1 sv (.int k z)=some (.ptr id g o,h))∧o+1≤vs.length∧RunP (h.set id (.cells g false (vs.take o++[.int .u64 w]++vs.drop (o+1)))) γ R'∧Nxt h (h.set id (.cells g false (vs.take o++[.int .u64 w]++vs.drop (o+1)))) γ γ∧γ.K id=.slots k j:=by
 unfold Run.put Run.fr? at hp
 rw [a.hr] at hp
 simp only [Option.bind_some,a.hf,Option.map_eq_some_iff] at hp
 obtain ⟨s,hs,rfl⟩:=hp
 obtain ⟨rfl,w0,hw0⟩:=set?_some hs
 obtain ⟨id,g,o,vs,e1,e2,e3,e4,e5,e6,e7⟩:=q.put hw0
 obtain ⟨c,q'⟩:=e7 w
 obtain ⟨P',N'⟩:=P.setFr c (fun t q=>.inr (.inl q)) (fun j hj=>Nat.lt_of_lt_of_le (P.k0 j hj) c.n) a ⟨_,_,_,_,_,q'⟩
 refine ⟨id,g,o,vs,e2,e3,e4,e6,?_,N',e1⟩
 rw [Run.setF_eq a.hr];exact P'
theorem sl_some {k j:Nat} {a w:Int} (e:R.sl k j a=some w) {r:Routine} {f:Frame} (hr:R.gs[k]?=some r) (hf:r.frames[j]?=some f):at? f.slots a=some w:=by
 unfold Run.sl Run.fr? at e
 rw [hr] at e
 simpa only [Option.bind_some,hf] using e
abbrev rowI (z:PIns) (zv:AVal):List AVal:=[.int .i64 z.op,.int .i64 z.a,.int .i64 z.b,.int .i64 z.c,.int .u64 z.imm,zv]
theorem memOps {op:Int} (h:isMem op=true):op=33∨op=34∨op=26∨op=27∨op=28∨op=29∨op=30∨op=31∨op=32:=by
 simp only [isMem,Bool.and_eq_true,decide_eq_true_eq] at h;omega
theorem newWords (P:RunP h γ R) (n:Nat) (kind:Int):ThP (h.push (.cells 0 false (List.replicate n (.int .u64 0)))) (fun j=>if j=h.n then Tag.words R.things.length else γ.K j) R.things.length (kind,.sl h.n 0 0 n 1,.nilp) ⟨kind,zeros n,none⟩ ∧
  Chg (fun _=>False) h (h.push (.cells 0 false (List.replicate n (.int .u64 0)))) γ.K (fun j=>if j=h.n then Tag.words R.things.length else γ.K j)∧∀ j,(if j=h.n then Tag.words R.things.length else γ.K j)≠.no→j<(h.push (.cells 0 false (List.replicate n (.int .u64 0)))).n:=by
 refine ⟨⟨rfl,⟨[h.n],.inr ⟨h.n,0,0,_,by simp [zeros],AHeap.get_push_same _ _,by simp,by simp [zeros],by simp [zeros,flatP],rfl⟩,fun j hj=>?_⟩,rfl⟩,((Chg.refl _ h γ.K).push _).tag fun j hj=>if_neg (by omega),fun j hj=>?_⟩
 ·obtain rfl:j=h.n:=by simpa using hj
  exact if_pos rfl
 ·by_cases e:j=h.n
  ·subst e;simp
  ·rw [if_neg e] at hj
   have:=P.k0 j hj
   simp;omega
set_option maxHeartbeats 16000000 in
theorem memory (P:RunP h γ R) {k j i:Nat} {r:Routine} {f:Frame} {x:Nat×List Nat} (a:At h γ R k j r f x i) {sv iv lv vv:AVal} {la:List (Int×AVal)} (q:FrV h γ.K k j i f sv iv lv vv la) {z:PIns} {zv:AVal} (hz:Ro h γ.K fun h=>SlRd h 1 encK zv z.list) (hm:isMem z.op=true) {R':Run} (hp:R.memory k j z=some R') :
  CallP AP 66 [.ptr γ.d 0 0,sv,.agg (rowI z zv)] h fun v h'=>∃ γ',RunP h' γ' R'∧Nxt h h' γ γ':=by
 refine callP (rfl:Tr.get AP 66=some A66) ?_
 generalize hQ:(fun (r:AVal) (h':AHeap)=>_)=Q
 have c1:=(Chg.refl (fun _=>False) h γ.K).push (.cells 0 false (rowI z zv))
 have N1:=Nxt.tmp c1
 have P1:=P.tmp c1
 have q1:=q.keep c1 (fun q=>q) (fun q=>q) (fun q=>q) (fun q=>q)
 have ho:=P1.obj
 have hlt:=P1.ltd
 have kn:=P.kn
 have gt:(h.push (.cells 0 false (rowI z zv))).get h.n=.cells 0 false (rowI z zv):=AHeap.get_push_same _ _
 have lt:h.n<(h.push (.cells 0 false (rowI z zv))).n:=by simp
 have zc:=hz.now.cells
 have sb:=q.slots.beq
 simp -implicitDefEqProofs (disch:=first|exact dz _|fail) only [↓qJ,qK,qL,qA,qB,qC,qD,qE,↓reduceIte,qG,qH,qI,rowI,zc.2]
 generalize (h.push (.cells 0 false (rowI z zv)))=h1 at *
 have a1:At h1 γ R k j r f x i:=⟨a.hr,a.hf,a.hx,a.hi⟩
 obtain ⟨op,za,zb,zcc,imm,list⟩:=z
 simp only [rowI] at gt hm hp ⊢
 rcases memOps hm with rfl | rfl | rfl | rfl | rfl | rfl | rfl | rfl | rfl
 ·-- get
  simp only [Run.memory,if_true,Option.bind_eq_some_iff] at hp
  obtain ⟨w,hw,hp⟩:=hp
  obtain ⟨id,g,off,vs,x1,x2,x3,x4⟩:=P1.globals.ix (enc:=fun n=>.int .u64 n) hw
  obtain ⟨id2,g2,o2,vs2,y1,y2,y3,y4,P2,N2,_⟩:=P1.put a1 q1 hp
  simp -implicitDefEqProofs (disch:=first|exact dz _|fail) only [↓qJ,qK,qL,qA,qB,qC,qD,qE,↓reduceIte,qG,qH,qI,gt,ho,x1,x2,x4,y1,y3,y4]
  subst hQ
  exact ⟨γ,P2,N1.trans N2⟩
 ·-- set
  simp only [Run.memory,Int.reduceEq,if_false,if_true,Option.bind_eq_some_iff,Option.map_eq_some_iff] at hp
  obtain ⟨w,hw,l,hl,rfl⟩:=hp
  obtain ⟨rfl,w0,hw0⟩:=set?_some hl
  obtain ⟨id,g,off,vs,x1,x2,x3,x4⟩:=q1.slots.ix (enc:=fun n=>.int .u64 n) (sl_some hw a.hr a.hf)
  obtain ⟨id2,g2,o2,vs2,y0,y1,y2,y3,y4,y5,y6⟩:=P1.globals.put (enc:=fun n=>.int .u64 n) hw0
  obtain ⟨c2,s2⟩:=y6 w
  obtain ⟨P2,N2⟩:=P1.setGl c2 s2
  simp -implicitDefEqProofs (disch:=first|exact dz _|fail) only [↓qJ,qK,qL,qA,qB,qC,qD,qE,↓reduceIte,qG,qH,qI,gt,ho,x1,x2,x4,y1,y3,y5]
  subst hQ
  exact ⟨γ,P2,N1.trans N2⟩
 ·-- new
  simp only [Run.memory,Int.reduceEq,if_false,if_true,Option.bind_eq_some_iff] at hp
  obtain ⟨t,ht,_,hl,R2,hadd,hp⟩:=hp
  have hl:=lim_lt hl
  obtain ⟨idp,gp,offp,vsp,rop,row,p1,p2,p3,p4,p5,p6,p7,tv,rfl,s1p⟩:=P1.prog.t.ix ht
  have p8:vsp[offp+1]?=some tv:=row_at p6 (by omega)
  have hs:=s1p.now.len
  have ms:=fun h=>ms_u64 h t.2.length hl
  obtain ⟨T2,c2,kk2⟩:=newWords P1 t.2.length (i64 (16+zb))
  have gt2:=(c2.keep lt kn (fun q=>q)).trans gt
  have lt2:=Nat.lt_of_lt_of_le lt c2.n
  unfold i64 at T2 hadd
  simp -implicitDefEqProofs (disch:=first|exact dz _|fail) only [↓qJ,qK,qL,qA,qB,qC,qD,qE,↓reduceIte,qG,qH,qI,gt,ho,p1,p2,p8,hs,ms]
  refine trCall_of (add (h0:=h1) hadd c2.n P1 c2 kk2 T2 rfl rfl) ?_
  rintro v h3 ⟨rfl,γ',P3,N3,eg,c3⟩
  have e2:R2.gs=R.gs:=by
   simp only [Run.addT,Option.map_eq_some_iff] at hadd
   obtain ⟨l,_,rfl⟩:=hadd;rfl
  have q3:=q1.keep c3 (TT.no Tag.noConfusion Tag.noConfusion) (TT.no Tag.noConfusion Tag.noConfusion) (TT.no Tag.noConfusion Tag.noConfusion) (TT.no Tag.noConfusion Tag.noConfusion)
  obtain ⟨id2,g2,o2,vs2,y1,y2,y3,y4,P4,N4,y5⟩:=P3.put ⟨by rw [e2];exact a.hr,a.hf,by rw [eg];exact a.hx,a.hi⟩ q3 hp
  have kn3:=(c3.k _ lt).trans kn
  have ne:h.n≠id2:=fun e=>by rw [←e] at y5;rw [kn3] at y5;cases y5
  have gt3:=(c3.keep lt kn (TT.no Tag.noConfusion Tag.noConfusion)).trans gt
  have lt3:=Nat.lt_of_lt_of_le lt c3.n
  simp -implicitDefEqProofs (disch:=first|exact dz _|fail) only [↓qJ,qK,qL,qA,qB,qC,qD,qE,↓reduceIte,qG,qH,qI,gt,gt2,gt3,y1,y3,y4,ne]
  subst hQ
  exact ⟨γ',P4,(N1.trans N3).trans N4⟩
 ·-- newarr
  simp only [Run.memory,Int.reduceEq,if_false,if_true,Option.bind_eq_some_iff] at hp
  obtain ⟨n,hn,hp⟩:=hp
  obtain ⟨id,g,off,vs,x1,x2,x3,x4⟩:=q1.slots.ix (enc:=fun n=>.int .u64 n) (sl_some hn a.hr a.hf)
  have bad:(i64 n<0∨1023<i64 n)→R.panic (-2)=some R'→∀ e:Env,Env.val e 0=.ptr γ.d 0 0→True:=fun _ _ _ _=>trivial
  by_cases c1:i64 n<0
  ·rw [if_pos (.inl c1)] at hp
   have d1:decide (IntKind.i64.wrap n<0)=true:=decide_eq_true c1
   simp -implicitDefEqProofs (disch:=first|exact dz _|fail) only [↓qJ,qK,qL,qA,qB,qC,qD,qE,↓reduceIte,qG,qH,qI,gt,ho,x1,x2,x4,d1]
   refine callI_of (panic P1 hp) ?_
   rintro v h3 ⟨γ',P3,N3⟩
   simp -implicitDefEqProofs (disch:=first|exact dz _|fail) only [↓qJ,qK,qL,qA,qB,qC,qD,qE,↓reduceIte,qG,qH,qI]
   subst hQ
   exact ⟨γ',P3,N1.trans N3⟩
  ·have d1:decide (IntKind.i64.wrap n<0)=false:=decide_eq_false c1
   by_cases c2:1023<i64 n
   ·rw [if_pos (.inr c2)] at hp
    have d2:decide (1023<IntKind.i64.wrap n)=true:=decide_eq_true c2
    simp -implicitDefEqProofs (disch:=first|exact dz _|fail) only [↓qJ,qK,qL,qA,qB,qC,qD,qE,↓reduceIte,qG,qH,qI,gt,ho,x1,x2,x4,d1,d2]
    refine callI_of (panic P1 hp) ?_
    rintro v h3 ⟨γ',P3,N3⟩
    simp -implicitDefEqProofs (disch:=first|exact dz _|fail) only [↓qJ,qK,qL,qA,qB,qC,qD,qE,↓reduceIte,qG,qH,qI]
    subst hQ
    exact ⟨γ',P3,N1.trans N3⟩
   ·rw [if_neg (by rintro (e | e);exact c1 e;exact c2 e)] at hp
    have d2:decide (1023<IntKind.i64.wrap n)=false:=decide_eq_false c2
    simp only [Option.bind_eq_some_iff] at hp
    obtain ⟨R2,hadd,hp⟩:=hp
    obtain ⟨m,hm'⟩:∃ m:Nat,i64 n=m:=⟨(i64 n).toNat,by omega⟩
    rw [hm',Int.toNat_natCast] at hadd
    have ms:=fun h=>ms_u64 h m (by omega)
    obtain ⟨T2,c2,kk2⟩:=newWords P1 m (i64 (16+zb))
    have gt2:=(c2.keep lt kn (fun q=>q)).trans gt
    have lt2:=Nat.lt_of_lt_of_le lt c2.n
    unfold i64 at T2 hadd hm'
    rw [hm'] at d1 d2
    simp -implicitDefEqProofs (disch:=first|exact dz _|fail) only [↓qJ,qK,qL,qA,qB,qC,qD,qE,↓reduceIte,qG,qH,qI,gt,ho,x1,x2,x4,hm',d1,d2,ms]
    refine trCall_of (add (h0:=h1) hadd c2.n P1 c2 kk2 T2 rfl rfl) ?_
    rintro v h3 ⟨rfl,γ',P3,N3,eg,c3⟩
    have e2:R2.gs=R.gs:=by
     simp only [Run.addT,Option.map_eq_some_iff] at hadd
     obtain ⟨l,_,rfl⟩:=hadd;rfl
    have q3:=q1.keep c3 (TT.no Tag.noConfusion Tag.noConfusion) (TT.no Tag.noConfusion Tag.noConfusion) (TT.no Tag.noConfusion Tag.noConfusion) (TT.no Tag.noConfusion Tag.noConfusion)
    obtain ⟨id2,g2,o2,vs2,y1,y2,y3,y4,P4,N4,y5⟩:=P3.put ⟨by rw [e2];exact a.hr,a.hf,by rw [eg];exact a.hx,a.hi⟩ q3 hp
    have kn3:=(c3.k _ lt).trans kn
    have ne:h.n≠id2:=fun e=>by rw [←e] at y5;rw [kn3] at y5;cases y5
    have gt3:=(c3.keep lt kn (TT.no Tag.noConfusion Tag.noConfusion)).trans gt
    have lt3:=Nat.lt_of_lt_of_le lt c3.n
    simp -implicitDefEqProofs (disch:=first|exact dz _|fail) only [↓qJ,qK,qL,qA,qB,qC,qD,qE,↓reduceIte,qG,qH,qI,gt,gt2,gt3,y1,y3,y4,ne]
    subst hQ
    exact ⟨γ',P4,(N1.trans N3).trans N4⟩
 ·-- op 28
  simp only [Run.memory,Int.reduceEq,or_self,or_false,or_true,false_or,true_or,if_false,if_true,false_and,true_and,Option.bind_eq_some_iff] at hp
  obtain ⟨o,ho',hp⟩:=hp
  obtain ⟨id,g,off,vs,x1,x2,x3,x4⟩:=q1.slots.ix (enc:=fun n=>.int .u64 n) (sl_some ho' a.hr a.hf)
  by_cases c0:o=0
  ·rw [if_pos c0] at hp
   have d0:decide (o=0)=true:=decide_eq_true c0
   simp -implicitDefEqProofs (disch:=first|exact dz _|fail) only [↓qJ,qK,qL,qA,qB,qC,qD,qE,↓reduceIte,qG,qH,qI,gt,ho,x1,x2,x4,d0]
   refine callI_of (panic P1 hp) ?_
   rintro v h3 ⟨γ',P3,N3⟩
   simp -implicitDefEqProofs (disch:=first|exact dz _|fail) only [↓qJ,qK,qL,qA,qB,qC,qD,qE,↓reduceIte,qG,qH,qI]
   subst hQ
   exact ⟨γ',P3,N1.trans N3⟩
  ·rw [if_neg c0] at hp
   have d0:decide (o=0)=false:=decide_eq_false c0
   simp only [Option.bind_eq_some_iff] at hp
   obtain ⟨t,ht,X,hX,hp⟩:=hp
   obtain ⟨y,hy,qt⟩:=P1.thing ht
   obtain ⟨idt,gtt,offt,vst,rot,t1,t2,t3,t4,t5⟩:=SlRd.ixA P1.things.rd (fun _=>rfl) hy
   have t6:vst[offt+1]?=some y.2.1:=row_at t5 (by omega)
   have wl:=qt.words.len
   have hxo:γ.th[o.toNat]?=some y:=(at?_nat hy).2.1
   have hto:R.things[o.toNat]?=some t:=(at?_nat ht).2.1
   cases hX
   obtain ⟨id2,g2,o2,vs2,y1,y2,y3,y4,P2,N2,_⟩:=P1.put a1 q1 hp
   simp -implicitDefEqProofs (disch:=first|exact dz _|fail) only [↓qJ,qK,qL,qA,qB,qC,qD,qE,↓reduceIte,qG,qH,qI,gt,ho,x1,x2,x4,d0,t1,t2,t6,wl,y1,y3,y4]
   subst hQ
   exact ⟨γ,P2,N1.trans N2⟩
 ·-- op 29
  simp only [Run.memory,Int.reduceEq,or_self,or_false,or_true,false_or,true_or,if_false,if_true,false_and,true_and,Option.bind_eq_some_iff] at hp
  obtain ⟨o,ho',hp⟩:=hp
  obtain ⟨id,g,off,vs,x1,x2,x3,x4⟩:=q1.slots.ix (enc:=fun n=>.int .u64 n) (sl_some ho' a.hr a.hf)
  by_cases c0:o=0
  ·rw [if_pos c0] at hp
   have d0:decide (o=0)=true:=decide_eq_true c0
   simp -implicitDefEqProofs (disch:=first|exact dz _|fail) only [↓qJ,qK,qL,qA,qB,qC,qD,qE,↓reduceIte,qG,qH,qI,gt,ho,x1,x2,x4,d0]
   refine callI_of (panic P1 hp) ?_
   rintro v h3 ⟨γ',P3,N3⟩
   simp -implicitDefEqProofs (disch:=first|exact dz _|fail) only [↓qJ,qK,qL,qA,qB,qC,qD,qE,↓reduceIte,qG,qH,qI]
   subst hQ
   exact ⟨γ',P3,N1.trans N3⟩
  ·rw [if_neg c0] at hp
   have d0:decide (o=0)=false:=decide_eq_false c0
   simp only [Option.bind_eq_some_iff] at hp
   obtain ⟨t,ht,X,hX,hp⟩:=hp
   obtain ⟨y,hy,qt⟩:=P1.thing ht
   obtain ⟨idt,gtt,offt,vst,rot,t1,t2,t3,t4,t5⟩:=SlRd.ixA P1.things.rd (fun _=>rfl) hy
   have t6:vst[offt+1]?=some y.2.1:=row_at t5 (by omega)
   have wl:=qt.words.len
   have hxo:γ.th[o.toNat]?=some y:=(at?_nat hy).2.1
   have hto:R.things[o.toNat]?=some t:=(at?_nat ht).2.1
   cases hX
   skip
   obtain ⟨w,hw,hp⟩:=hp
   obtain ⟨idw,gw,offw,vsw,w1,w2,w3,w4⟩:=qt.words.ix (enc:=fun n=>.int .u64 n) hw
   obtain ⟨id2,g2,o2,vs2,y1,y2,y3,y4,P2,N2,_⟩:=P1.put a1 q1 hp
   simp -implicitDefEqProofs (disch:=first|exact dz _|fail) only [↓qJ,qK,qL,qA,qB,qC,qD,qE,↓reduceIte,qG,qH,qI,gt,ho,x1,x2,x4,d0,t1,t2,t6,w1,w2,w4,y1,y3,y4]
   subst hQ
   exact ⟨γ,P2,N1.trans N2⟩
 ·-- op 30
  simp only [Run.memory,Int.reduceEq,or_self,or_false,or_true,false_or,true_or,if_false,if_true,false_and,true_and,Option.bind_eq_some_iff] at hp
  obtain ⟨o,ho',hp⟩:=hp
  obtain ⟨id,g,off,vs,x1,x2,x3,x4⟩:=q1.slots.ix (enc:=fun n=>.int .u64 n) (sl_some ho' a.hr a.hf)
  by_cases c0:o=0
  ·rw [if_pos c0] at hp
   have d0:decide (o=0)=true:=decide_eq_true c0
   simp -implicitDefEqProofs (disch:=first|exact dz _|fail) only [↓qJ,qK,qL,qA,qB,qC,qD,qE,↓reduceIte,qG,qH,qI,gt,ho,x1,x2,x4,d0]
   refine callI_of (panic P1 hp) ?_
   rintro v h3 ⟨γ',P3,N3⟩
   simp -implicitDefEqProofs (disch:=first|exact dz _|fail) only [↓qJ,qK,qL,qA,qB,qC,qD,qE,↓reduceIte,qG,qH,qI]
   subst hQ
   exact ⟨γ',P3,N1.trans N3⟩
  ·rw [if_neg c0] at hp
   have d0:decide (o=0)=false:=decide_eq_false c0
   simp only [Option.bind_eq_some_iff] at hp
   obtain ⟨t,ht,X,hX,hp⟩:=hp
   obtain ⟨y,hy,qt⟩:=P1.thing ht
   obtain ⟨idt,gtt,offt,vst,rot,t1,t2,t3,t4,t5⟩:=SlRd.ixA P1.things.rd (fun _=>rfl) hy
   have t6:vst[offt+1]?=some y.2.1:=row_at t5 (by omega)
   have wl:=qt.words.len
   have hxo:γ.th[o.toNat]?=some y:=(at?_nat hy).2.1
   have hto:R.things[o.toNat]?=some t:=(at?_nat ht).2.1
   cases hX
   simp only [Option.bind_eq_some_iff,Option.map_eq_some_iff] at hp
   obtain ⟨w,hw,ws,hws,rfl⟩:=hp
   obtain ⟨rfl,w0,hw0⟩:=set?_some hws
   obtain ⟨idw,gw,offw,vsw,w1,w2,w3,w4⟩:=q1.slots.ix (enc:=fun n=>.int .u64 n) (sl_some hw a.hr a.hf)
   obtain ⟨id2,g2,o2,vs2,y0,y1,y2,y3,y4,y5,y6⟩:=qt.words.put (enc:=fun n=>.int .u64 n) hw0
   obtain ⟨c2,s2⟩:=y6 w
   obtain ⟨P2,N2⟩:=P1.setTh (n:=o.toNat) (t':={ t with words:=t.words.set zcc.toNat w }) (c2.wide fun _ q=>Or.inl q) (fun j hj=>Nat.lt_of_lt_of_le (P1.k0 j hj) c2.n) hxo hto ⟨qt.kind,s2,qt.ch.keep c2 Tag.noConfusion⟩
   simp -implicitDefEqProofs (disch:=first|exact dz _|fail) only [↓qJ,qK,qL,qA,qB,qC,qD,qE,↓reduceIte,qG,qH,qI,gt,ho,x1,x2,x4,d0,t1,t2,t6,w1,w2,w4,y1,y3,y5]
   subst hQ
   exact ⟨γ,P2,N1.trans N2⟩
 ·-- op 31
  simp only [Run.memory,Int.reduceEq,or_self,or_false,or_true,false_or,true_or,if_false,if_true,false_and,true_and,Option.bind_eq_some_iff] at hp
  obtain ⟨o,ho',hp⟩:=hp
  obtain ⟨id,g,off,vs,x1,x2,x3,x4⟩:=q1.slots.ix (enc:=fun n=>.int .u64 n) (sl_some ho' a.hr a.hf)
  by_cases c0:o=0
  ·rw [if_pos c0] at hp
   have d0:decide (o=0)=true:=decide_eq_true c0
   simp -implicitDefEqProofs (disch:=first|exact dz _|fail) only [↓qJ,qK,qL,qA,qB,qC,qD,qE,↓reduceIte,qG,qH,qI,gt,ho,x1,x2,x4,d0]
   refine callI_of (panic P1 hp) ?_
   rintro v h3 ⟨γ',P3,N3⟩
   simp -implicitDefEqProofs (disch:=first|exact dz _|fail) only [↓qJ,qK,qL,qA,qB,qC,qD,qE,↓reduceIte,qG,qH,qI]
   subst hQ
   exact ⟨γ',P3,N1.trans N3⟩
  ·rw [if_neg c0] at hp
   have d0:decide (o=0)=false:=decide_eq_false c0
   simp only [Option.bind_eq_some_iff] at hp
   obtain ⟨t,ht,X,hX,hp⟩:=hp
   obtain ⟨y,hy,qt⟩:=P1.thing ht
   obtain ⟨idt,gtt,offt,vst,rot,t1,t2,t3,t4,t5⟩:=SlRd.ixA P1.things.rd (fun _=>rfl) hy
   have t6:vst[offt+1]?=some y.2.1:=row_at t5 (by omega)
   have wl:=qt.words.len
   have hxo:γ.th[o.toNat]?=some y:=(at?_nat hy).2.1
   have hto:R.things[o.toNat]?=some t:=(at?_nat ht).2.1
   simp only [Option.map_eq_some_iff] at hX
   obtain ⟨n,hn,rfl⟩:=hX
   obtain ⟨idn,gn,offn,vsn,n1,n2,n3,n4⟩:=q1.slots.ix (enc:=fun n=>.int .u64 n) (sl_some hn a.hr a.hf)
   by_cases c1:i64 n<0
   ·rw [if_pos (.inl c1)] at hp
    have d1:decide (IntKind.i64.wrap n<0)=true:=decide_eq_true c1
    simp -implicitDefEqProofs (disch:=first|exact dz _|fail) only [↓qJ,qK,qL,qA,qB,qC,qD,qE,↓reduceIte,qG,qH,qI,gt,ho,x1,x2,x4,d0,t1,t2,t6,n1,n2,n4,wl,d1]
    refine callI_of (panic P1 hp) ?_
    rintro v h3 ⟨γ',P3,N3⟩
    simp -implicitDefEqProofs (disch:=first|exact dz _|fail) only [↓qJ,qK,qL,qA,qB,qC,qD,qE,↓reduceIte,qG,qH,qI]
    subst hQ
    exact ⟨γ',P3,N1.trans N3⟩
   have d1:decide (IntKind.i64.wrap n<0)=false:=decide_eq_false c1
   by_cases c2:(t.words.length:Int)≤i64 n
   ·rw [if_pos (.inr c2)] at hp
    have d2:decide ((t.words.length:Int)≤IntKind.i64.wrap n)=true:=decide_eq_true c2
    simp -implicitDefEqProofs (disch:=first|exact dz _|fail) only [↓qJ,qK,qL,qA,qB,qC,qD,qE,↓reduceIte,qG,qH,qI,gt,ho,x1,x2,x4,d0,t1,t2,t6,n1,n2,n4,wl,d1,d2]
    refine callI_of (panic P1 hp) ?_
    rintro v h3 ⟨γ',P3,N3⟩
    simp -implicitDefEqProofs (disch:=first|exact dz _|fail) only [↓qJ,qK,qL,qA,qB,qC,qD,qE,↓reduceIte,qG,qH,qI]
    subst hQ
    exact ⟨γ',P3,N1.trans N3⟩
   have d2:decide ((t.words.length:Int)≤IntKind.i64.wrap n)=false:=decide_eq_false c2
   rw [if_neg (by rintro (e | e);exact c1 e;exact c2 e)] at hp
   simp only [Option.bind_eq_some_iff] at hp
   obtain ⟨w,hw,hp⟩:=hp
   obtain ⟨idw,gw,offw,vsw,w1,w2,w3,w4⟩:=qt.words.ix (enc:=fun n=>.int .u64 n) hw
   unfold i64 at w1
   obtain ⟨id2,g2,o2,vs2,y1,y2,y3,y4,P2,N2,_⟩:=P1.put a1 q1 hp
   simp -implicitDefEqProofs (disch:=first|exact dz _|fail) only [↓qJ,qK,qL,qA,qB,qC,qD,qE,↓reduceIte,qG,qH,qI,gt,ho,x1,x2,x4,d0,t1,t2,t6,n1,n2,n4,wl,d1,d2,w1,w2,w4,y1,y3,y4]
   subst hQ
   exact ⟨γ,P2,N1.trans N2⟩
 ·-- op 32
  simp only [Run.memory,Int.reduceEq,or_self,or_false,or_true,false_or,true_or,if_false,if_true,false_and,true_and,Option.bind_eq_some_iff] at hp
  obtain ⟨o,ho',hp⟩:=hp
  obtain ⟨id,g,off,vs,x1,x2,x3,x4⟩:=q1.slots.ix (enc:=fun n=>.int .u64 n) (sl_some ho' a.hr a.hf)
  by_cases c0:o=0
  ·rw [if_pos c0] at hp
   have d0:decide (o=0)=true:=decide_eq_true c0
   simp -implicitDefEqProofs (disch:=first|exact dz _|fail) only [↓qJ,qK,qL,qA,qB,qC,qD,qE,↓reduceIte,qG,qH,qI,gt,ho,x1,x2,x4,d0]
   refine callI_of (panic P1 hp) ?_
   rintro v h3 ⟨γ',P3,N3⟩
   simp -implicitDefEqProofs (disch:=first|exact dz _|fail) only [↓qJ,qK,qL,qA,qB,qC,qD,qE,↓reduceIte,qG,qH,qI]
   subst hQ
   exact ⟨γ',P3,N1.trans N3⟩
  ·rw [if_neg c0] at hp
   have d0:decide (o=0)=false:=decide_eq_false c0
   simp only [Option.bind_eq_some_iff] at hp
   obtain ⟨t,ht,X,hX,hp⟩:=hp
   obtain ⟨y,hy,qt⟩:=P1.thing ht
   obtain ⟨idt,gtt,offt,vst,rot,t1,t2,t3,t4,t5⟩:=SlRd.ixA P1.things.rd (fun _=>rfl) hy
   have t6:vst[offt+1]?=some y.2.1:=row_at t5 (by omega)
   have wl:=qt.words.len
   have hxo:γ.th[o.toNat]?=some y:=(at?_nat hy).2.1
   have hto:R.things[o.toNat]?=some t:=(at?_nat ht).2.1
   simp only [Option.map_eq_some_iff] at hX
   obtain ⟨n,hn,rfl⟩:=hX
   obtain ⟨idn,gn,offn,vsn,n1,n2,n3,n4⟩:=q1.slots.ix (enc:=fun n=>.int .u64 n) (sl_some hn a.hr a.hf)
   by_cases c1:i64 n<0
   ·rw [if_pos (.inl c1)] at hp
    have d1:decide (IntKind.i64.wrap n<0)=true:=decide_eq_true c1
    simp -implicitDefEqProofs (disch:=first|exact dz _|fail) only [↓qJ,qK,qL,qA,qB,qC,qD,qE,↓reduceIte,qG,qH,qI,gt,ho,x1,x2,x4,d0,t1,t2,t6,n1,n2,n4,wl,d1]
    refine callI_of (panic P1 hp) ?_
    rintro v h3 ⟨γ',P3,N3⟩
    simp -implicitDefEqProofs (disch:=first|exact dz _|fail) only [↓qJ,qK,qL,qA,qB,qC,qD,qE,↓reduceIte,qG,qH,qI]
    subst hQ
    exact ⟨γ',P3,N1.trans N3⟩
   have d1:decide (IntKind.i64.wrap n<0)=false:=decide_eq_false c1
   by_cases c2:(t.words.length:Int)≤i64 n
   ·rw [if_pos (.inr c2)] at hp
    have d2:decide ((t.words.length:Int)≤IntKind.i64.wrap n)=true:=decide_eq_true c2
    simp -implicitDefEqProofs (disch:=first|exact dz _|fail) only [↓qJ,qK,qL,qA,qB,qC,qD,qE,↓reduceIte,qG,qH,qI,gt,ho,x1,x2,x4,d0,t1,t2,t6,n1,n2,n4,wl,d1,d2]
    refine callI_of (panic P1 hp) ?_
    rintro v h3 ⟨γ',P3,N3⟩
    simp -implicitDefEqProofs (disch:=first|exact dz _|fail) only [↓qJ,qK,qL,qA,qB,qC,qD,qE,↓reduceIte,qG,qH,qI]
    subst hQ
    exact ⟨γ',P3,N1.trans N3⟩
   have d2:decide ((t.words.length:Int)≤IntKind.i64.wrap n)=false:=decide_eq_false c2
   rw [if_neg (by rintro (e | e);exact c1 e;exact c2 e)] at hp
   simp only [Option.bind_eq_some_iff,Option.map_eq_some_iff] at hp
   obtain ⟨w,hw,ws,hws,rfl⟩:=hp
   obtain ⟨rfl,w0,hw0⟩:=set?_some hws
   obtain ⟨idw,gw,offw,vsw,w1,w2,w3,w4⟩:=q1.slots.ix (enc:=fun n=>.int .u64 n) (sl_some hw a.hr a.hf)
   obtain ⟨id2,g2,o2,vs2,y0,y1,y2,y3,y4,y5,y6⟩:=qt.words.put (enc:=fun n=>.int .u64 n) hw0
   obtain ⟨c2,s2⟩:=y6 w
   obtain ⟨P2,N2⟩:=P1.setTh (n:=o.toNat) (t':={ t with words:=t.words.set (i64 n).toNat w }) (c2.wide fun _ q=>Or.inl q) (fun j hj=>Nat.lt_of_lt_of_le (P1.k0 j hj) c2.n) hxo hto ⟨qt.kind,s2,qt.ch.keep c2 Tag.noConfusion⟩
   unfold i64 at y3
   simp -implicitDefEqProofs (disch:=first|exact dz _|fail) only [↓qJ,qK,qL,qA,qB,qC,qD,qE,↓reduceIte,qG,qH,qI,gt,ho,x1,x2,x4,d0,t1,t2,t6,n1,n2,n4,wl,d1,d2,w1,w2,w4,y1,y3,y5]
   subst hQ
   exact ⟨γ,P2,N1.trans N2⟩
end
end Go.Proofs.Ytnbnpjhlflcjeaa.Id
namespace Go.Proofs.Ytnbnpjhlflcjeaa.Id
open Go Go.AM Go.Proofs.Ytnbnpjhlflcjeaa.AmGF
open Nat renaming reduceAdd → qA,reduceLeDiff → qB,reduceEqDiff → qC,reduceLT → qE
open Int renaming reduceToNat → qD,reduceEq → qG,reduceLT → qH,reduceLE → qI
def fromV (v:AVal) (m:Nat):AVal:=match v with
 | .sl id g off len e=>.sl id g (off+m*e) (len-m) e
 | v=>v
theorem SlRd.from {α:Type} {enc:α→List AVal} {n:Nat} {h:AHeap} {v:AVal} {l:List α} (s:SlRd h n enc v l) (hE:∀ a,(enc a).length=n) {m:Nat} (hm:m≤l.length) (k:IntKind):slV h n v (some (.int k m)) none=some (fromV v m,h)∧SlRd h n enc (fromV v m) (l.drop m):=by
 rcases s with ⟨a,b⟩ | ⟨id,g,off,vs,ro,a,b,c,d,e⟩
 ·subst a b
  have:m=0:=by simpa using hm
  subst this
  exact ⟨rfl,.inl ⟨rfl,by simp⟩⟩
 ·subst a
  have h1:=Nat.mul_le_mul_right n hm
  refine ⟨?_,.inr ⟨id,g,off+m*n,vs,ro,by rw [List.length_drop];rfl,b,c,?_,?_⟩⟩
  ·rw [AM.sl_from h b (by omega) (by omega)];simp [fromV]
  ·rw [List.length_drop,Nat.sub_mul];omega
  ·rw [List.length_drop,←flat_drop hE,←e,List.drop_take,List.drop_drop,Nat.sub_mul]
section
variable {h0 h h':AHeap} {K:Nat→Tag} {γ:GI} {R:Run}
theorem Chg.n0 {F:List Nat} (f:HFrame h h' [] F):Chg (fun _=>False) h h' K K:=Chg.of f (by simp)
set_option maxHeartbeats 4000000 in
theorem beginG (P:RunP h γ R) {fn:Int} {args:List Int} {av:AVal} (A:SlRd h 1 encP av args) {R':Run} (hp:R.begin fn args=some R'):CallP AP 36 [.ptr γ.d 0 0,.int .i64 fn,av] h fun v h'=>∃ γ',RunP h' γ' R'∧Nxt h h' γ γ':=by
 refine callP (rfl:Tr.get AP 36=some A36) ?_
 generalize hQ:(fun (r:AVal) (h':AHeap)=>_)=Q
 simp only [Run.begin,Option.bind_eq_some_iff,Option.map_eq_some_iff] at hp
 obtain ⟨f,hf,r,hr,gs,hgs,rfl⟩:=hp
 have hflates:f.lates=[]∧f.saved=[]∧f.into=[]:=by
  simp only [newF,Option.bind_eq_some_iff] at hf
  obtain ⟨F,_,hf⟩:=hf
  split at hf
  ·cases hf;exact ⟨rfl,rfl,rfl⟩
  ·cases hf
 unfold app? at hgs
 split at hgs
 ·rename_i hb
  cases hgs
  unfold Routine.push at hr
  rw [if_pos (by show 0<1000000;omega)] at hr
  cases hr
  have c1:=(Chg.refl (fun _=>False) h γ.K).push (.cells 0 false [.int .i64 1,.int .u64 0,.bool false,.nils,.int .u64 0,.bool false,.int .i64 0,.bool false])
  have P1:=P.tmp c1
  have gr1:(h.push (.cells 0 false [.int .i64 1,.int .u64 0,.bool false,.nils,.int .u64 0,.bool false,.int .i64 0,.bool false])).get h.n=.cells 0 false [.int .i64 1,.int .u64 0,.bool false,.nils,.int .u64 0,.bool false,.int .i64 0,.bool false]:=AHeap.get_push_same _ _
  have n1:(h.push (.cells 0 false [.int .i64 1,.int .u64 0,.bool false,.nils,.int .u64 0,.bool false,.int .i64 0,.bool false])).n=h.n+1:=rfl
  have A1:=A.mono (h':=(h.push (.cells 0 false [.int .i64 1,.int .u64 0,.bool false,.nils,.int .u64 0,.bool false,.int .i64 0,.bool false]))) (by simp) fun j hj _=>AHeap.get_push_ne _ _ (by omega)
  simp -implicitDefEqProofs (disch:=first|exact dz _|fail) only [↓qJ,qK,qL,qA,qB,qC,qD,qE,↓reduceIte,qG,qH,qI]
  generalize (h.push (.cells 0 false [.int .i64 1,.int .u64 0,.bool false,.nils,.int .u64 0,.bool false,.int .i64 0,.bool false]))=h1 at *
  refine callI_of (frame P1 A1 hf) ?_
  rintro v h2 ⟨n,rfl,F2,sv,Fs,l1,l2,l3,l4,l5⟩
  have n2:=F2.n
  have gr2:=(F2.get h.n (by omega) (by simp)).trans gr1
  simp -implicitDefEqProofs (disch:=first|exact dz _|fail) only [↓qJ,qK,qL,qA,qB,qC,qD,qE,↓reduceIte,qG,qH,qI]
  refine callI_of (push0 gr2 l3 (by omega) l2 (by omega) (SlX.nil (enc:=encQ) (esz:=1)) (by simp) (by simp) (by simp)) ?_
  rintro v h3 ⟨fv',F',S3,F3,g1,g2,n1',n2'⟩
  have n3:=F3.n
  have nF':∀ j,j∈F'→h2.n≤j∧j<h3.n:=fun j hj=>⟨by
   rcases F3.new j (by simp [hj]) with q | q
   ·simp only [List.mem_cons,List.not_mem_nil,or_false] at q
    rcases q with rfl | rfl
    ·exact absurd hj n1'
    ·exact absurd hj n2'
   ·exact q,S3.lt j hj⟩
  obtain ⟨K2,hK2⟩:∃ K2:Nat→Tag,K2=fun j=>if j=h.n then Tag.rt R.gs.length else if j=n then Tag.fr R.gs.length 0 else if j∈Fs then Tag.slots R.gs.length 0 else if j∈F' then Tag.frs R.gs.length else γ.K j:=⟨_,rfl⟩
  have Ko:∀ j,j<h.n→K2 j=γ.K j:=fun j hj=>by
   rw [hK2];show (if _ then _ else _)=_
   rw [if_neg (by omega),if_neg (by omega),if_neg (fun hm=>by have:=(l5 j hm).1;omega),if_neg (fun hm=>by have:=(nF' j hm).1;omega)]
  have c3:Chg (fun _=>False) h h3 γ.K K2:=⟨by omega,by rw [F3.g,F2.g,c1.g],Ko,fun j hj _=>by
   rw [F3.get j (by omega) (by simp;omega),F2.get j (by omega) (by simp),c1.get j hj (fun q=>q)]⟩
  have ho:=P.obj
  have hlt:=P.ltd
  have ho3:=(c3.keep hlt P.kd (fun q=>q)).trans ho
  have hlt3:γ.d<h3.n:=by omega
  have kd2:K2 γ.d=.d:=(Ko _ hlt).trans P.kd
  have hgl:=P.gsAll.1
  have s3:=P.gs.keep c3 (fun q=>q)
  have sb:=P.gs.beq
  simp -implicitDefEqProofs (disch:=first|exact dz _|fail) only [↓qJ,qK,qL,qA,qB,qC,qD,qE,↓reduceIte,qG,qH,qI,ho3]
  refine opI_of (s3.app1 (fun _=>rfl) h.n rfl (by rw [List.length_map];omega) fun v' h4 K4 s c kk=>?_)
  have ho4:=(c.keep hlt3 kd2 Tag.noConfusion).trans ho3
  have hlt4:γ.d<h4.n:=Nat.lt_of_lt_of_le hlt3 c.n
  have sc:=s.cells
  simp -implicitDefEqProofs (disch:=first|exact dz _|fail) only [↓qJ,qK,qL,qA,qB,qC,qD,qE,↓reduceIte,qG,qH,qI,ho4,sc.1,sc.2]
  have kd4:K4 γ.d=.d:=(c.k _ hlt3).trans kd2
  have cs:=(Chg.refl (·=Tag.d) h4 K4).set (i:=γ.d) (fun _=>kd4) (.cells 0 false [γ.tv,γ.gv,γ.fv,γ.glv,γ.thv,v',.int .u64 R.clock,γ.trv,.bool R.ended,.int .i64 R.g])
  have c5:Chg (TT .d .gs) h (h4.set γ.d (.cells 0 false [γ.tv,γ.gv,γ.fv,γ.glv,γ.thv,v',.int .u64 R.clock,γ.trv,.bool R.ended,.int .i64 R.g])) γ.K K4:=(((c3.wide (T1:=TT .d .gs) fun _ q=>q.elim).trans (c.wide fun t q=>Or.inr q))).trans (cs.wide fun t q=>Or.inl q)
  have RT:RtP h3 K2 R.gs.length (h.n,[n]) ⟨1,0,false,[{ f with serial:=u64 (0+1) }],u64 (0+1),false,0,false⟩:=by
   refine ⟨fv',?_,?_,g1,⟨F',by simpa using S3,fun j hj=>?_⟩,All2.nil.snoc (l:=[]) (m:=[]) ?_⟩
   ·rw [hK2];exact if_pos rfl
   ·show h.n<h3.n;omega
   ·have:=nF' j hj
    rw [hK2];show (if _ then _ else _)=_
    rw [if_neg (by omega),if_neg (by omega),if_neg (fun hm=>by have:=l4.lt j hm;omega),if_pos hj]
   ·refine ⟨sv,.nils,.nils,.nils,[],?_,by omega,g2,⟨Fs,l4.frame n3 fun j hj=>F3.get j (l4.lt j hj) ?_,fun j hj=>?_⟩,by show Ro _ _ fun h=>SlRd h 1 encK _ f.into;rw [hflates.2.2];exact Ro.nil,Ow.nil,by show All2 _ _ f.lates;rw [hflates.1];exact All2.nil,by show Ro _ _ fun h=>SlRd h 1 encP _ f.saved;rw [hflates.2.1];exact Ro.nil⟩
    ·rw [hK2];show (if _ then _ else _)=_
     rw [if_neg (by omega),if_pos rfl];rfl
    ·have:=l5 j hj
     simp only [List.mem_cons,List.not_mem_nil,or_false];omega
    ·have:=l5 j hj
     rw [hK2];show (if _ then _ else _)=_
     rw [if_neg (by omega),if_neg this.2,if_pos hj];rfl
  obtain ⟨P5,N5⟩:=P.addG c5 (fun j hj=>by
   show j<h4.n
   rcases kk j with e | e
   ·rw [e,hK2] at hj
    have:=c.n
    by_cases e1:j=h.n
    ·omega
    ·by_cases e2:j=n
     ·omega
     ·by_cases e3:j∈Fs
      ·have:=l4.lt j e3;omega
      ·by_cases e4:j∈F'
       ·have:=nF' j e4;omega
       ·simp only [if_neg e1,if_neg e2,if_neg e3,if_neg e4] at hj
        have:=P.k0 j hj;omega
   ·exact e.2) (s.keep cs Tag.noConfusion) ((RT.keep c Tag.noConfusion Tag.noConfusion Tag.noConfusion fun k=>⟨Tag.noConfusion,Tag.noConfusion,Tag.noConfusion⟩).keep cs Tag.noConfusion Tag.noConfusion Tag.noConfusion fun k=>⟨Tag.noConfusion,Tag.noConfusion,Tag.noConfusion⟩) (AHeap.get_set_same _ _ _)
  subst hQ
  exact ⟨_,P5,N5⟩
 ·cases hgs
end
end Go.Proofs.Ytnbnpjhlflcjeaa.Id
namespace Go.Proofs.Ytnbnpjhlflcjeaa.Id
open Go Go.AM Go.Proofs.Ytnbnpjhlflcjeaa.AmGF
open Nat renaming reduceAdd → qA,reduceLeDiff → qB,reduceEqDiff → qC,reduceLT → qE
open Int renaming reduceToNat → qD,reduceEq → qG,reduceLT → qH,reduceLE → qI
theorem callOps {op:Int} (h:isCall op=true):op=35∨op=36∨op=37∨op=38∨op=39∨op=40:=by
 simp only [isCall,Bool.and_eq_true,decide_eq_true_eq] at h;omega
section
variable {h0 h h':AHeap} {K:Nat→Tag} {γ:GI} {R:Run}
set_option maxHeartbeats 16000000 in
theorem calls (P:RunP h γ R) {k j i:Nat} {r:Routine} {f:Frame} {x:Nat×List Nat} (a:At h γ R k j r f x i) {sv iv lv vv fv:AVal} {la:List (Int×AVal)} (s:RtV h γ.K k x.1 x.2 r fv) (q:FrV h γ.K k j i f sv iv lv vv la) {z:PIns} {zv:AVal} (hz:Ro h γ.K fun h=>SlRd h 1 encK zv z.list) (hm:isCall z.op=true) {R':Run} (hp:R.calls k j z=some R') :
  CallP AP 67 [.ptr γ.d 0 0,.ptr x.1 0 0,.ptr i 0 0,.agg (rowI z zv)] h fun v h'=>∃ γ',RunP h' γ' R'∧Nxt h h' γ γ':=by
 refine callP (rfl:Tr.get AP 67=some A67) ?_
 generalize hQ:(fun (r:AVal) (h':AHeap)=>_)=Q
 have c1:=(Chg.refl (fun _=>False) h γ.K).push (.cells 0 false (rowI z zv))
 have N1:=Nxt.tmp c1
 have P1:=P.tmp c1
 have q1:=q.keep c1 (fun q=>q) (fun q=>q) (fun q=>q) (fun q=>q)
 have s1:=s.keep c1 (fun q=>q) (fun q=>q) (fun q=>q) (fun k=>⟨fun q=>q,fun q=>q,fun q=>q⟩)
 have z1:=hz.keep c1 (fun q=>q)
 have ho:=P1.obj
 have hlt:=P1.ltd
 have kn:=P.kn
 have gt:(h.push (.cells 0 false (rowI z zv))).get h.n=.cells 0 false (rowI z zv):=AHeap.get_push_same _ _
 have lt:h.n<(h.push (.cells 0 false (rowI z zv))).n:=by simp
 have zc:=hz.now.cells
 have sb:=q.slots.beq
 simp -implicitDefEqProofs (disch:=first|exact dz _|fail) only [↓qJ,qK,qL,qA,qB,qC,qD,qE,↓reduceIte,qG,qH,qI,rowI,zc.2]
 generalize (h.push (.cells 0 false (rowI z zv)))=h1 at *
 have a1:At h1 γ R k j r f x i:=⟨a.hr,a.hf,a.hx,a.hi⟩
 have hro:=s1.obj
 have hrlt:=s1.lt
 have hfl:=s1.frs.len
 have hll:=s1.all.1
 have hq:=q1.obj
 have hqlt:=q1.lt
 have hql:=q1.lates.len
 have hla:=q1.args.1
 obtain ⟨op,za,zb,zcc,imm,list⟩:=z
 simp only [rowI] at gt hm hp z1 ⊢
 unfold Run.calls at hp
 rw [a.hr] at hp
 simp only [Option.bind_some,a.hf] at hp
 rcases callOps hm with rfl | rfl | rfl | rfl | rfl | rfl
 ·-- call
  simp only [if_true] at hp
  by_cases c1:64≤r.frames.length
  ·rw [if_pos c1] at hp
   have d1:decide ((64:Int)≤(x.2.length:Int))=true:=decide_eq_true (by omega)
   simp -implicitDefEqProofs (disch:=first|exact dz _|fail) only [↓qJ,qK,qL,qA,qB,qC,qD,qE,↓reduceIte,qG,qH,qI,gt,hro,hfl,d1]
   refine callI_of (panic P1 hp) ?_
   rintro v h3 ⟨γ',P3,N3⟩
   simp -implicitDefEqProofs (disch:=first|exact dz _|fail) only [↓qJ,qK,qL,qA,qB,qC,qD,qE,↓reduceIte,qG,qH,qI]
   subst hQ
   exact ⟨γ',P3,N1.trans N3⟩
  ·rw [if_neg c1] at hp
   have d1:decide ((64:Int)≤(x.2.length:Int))=false:=decide_eq_false (by omega)
   simp only [Option.bind_eq_some_iff] at hp
   obtain ⟨F,hF,hp⟩:=hp
   split at hp
   ·rename_i hpar
    simp only [Option.bind_eq_some_iff,Option.map_eq_some_iff] at hp
    obtain ⟨args,hargs,g,hg,r',hpu,rfl⟩:=hp
    obtain ⟨m,hm'⟩:∃ m:Nat,F.params=m:=⟨F.params.toNat,by omega⟩
    rw [hm',Int.toNat_natCast] at hpu hargs
    obtain ⟨idp,gp,offp,vsp,rop,row,p1,p2,p3,p4,p5,p6,p7,svp,rvp,cvp,rfl,s1p,s2p,s3p⟩:=P1.prog.f.ix hF
    have p8:vsp[offp+0]?=some (.int .i64 F.params):=row_at p6 (by omega)
    rw [hm',Nat.add_zero] at p8
    have hml:m≤list.length:=by omega
    obtain ⟨zv',u1,u2⟩:=z1.now.upto (fun _=>rfl) hml .i64
    simp -implicitDefEqProofs (disch:=first|exact dz _|fail) only [↓qJ,qK,qL,qA,qB,qC,qD,qE,↓reduceIte,qG,qH,qI,gt,hro,hfl,d1,ho,p1,p2,p8,hq,u1]
    refine trCall_of (values q1.slots.rd u2 hargs) ?_
    rintro v h2 ⟨F2,f2,S2⟩
    have c2:Chg (fun _=>False) h1 h2 γ.K γ.K:=Chg.n0 f2
    have P2:=P1.tmp c2
    have gt2:=(c2.keep lt kn (fun q=>q)).trans gt
    have lt2:=Nat.lt_of_lt_of_le lt c2.n
    simp -implicitDefEqProofs (disch:=first|exact dz _|fail) only [↓qJ,qK,qL,qA,qB,qC,qD,qE,↓reduceIte,qG,qH,qI]
    refine trCall_of (frame P2 S2.rd hg) ?_
    rintro v h3 ⟨n,rfl,f3,sv3,Fs,l1,l2,l3,l4,l5⟩
    have c3:Chg (fun _=>False) h1 h3 γ.K γ.K:=c2.trans (Chg.n0 f3)
    have gt3:=(c3.keep lt kn (fun q=>q)).trans gt
    have lt3:=Nat.lt_of_lt_of_le lt c3.n
    obtain ⟨u3,u4⟩:=SlRd.from (z1.at c3 (fun q=>q)) (fun _=>rfl) hml .i64
    have uc:=u4.cells
    have hq3:=(c3.keep hqlt q1.kid (fun q=>q)).trans hq
    simp -implicitDefEqProofs (disch:=first|exact dz _|fail) only [↓qJ,qK,qL,qA,qB,qC,qD,qE,↓reduceIte,qG,qH,qI,gt,gt2,gt3,u3,l3,uc.1,uc.2]
    have F4:HFrame h2 (h3.set n (.cells 0 false [.int .i64 g.fn,.int .i64 g.pc,.int .u64 g.serial,sv3,fromV zv m,.nils,.int .i64 g.mode,.bool g.ending,.nils])) [] []:=f3.setTmp l1 _
    have hlates:g.lates=[]∧g.saved=[]∧g.into=[]:=by
     simp only [newF,Option.bind_eq_some_iff] at hg
     obtain ⟨F,_,hg⟩:=hg
     split at hg
     ·cases hg;exact ⟨rfl,rfl,rfl⟩
     ·cases hg
    refine callI_of (pushR (x:=x) (sv:=sv3) (iv:=fromV zv m) (Fs:=Fs) (f:={ g with into:=list.drop m }) P2 F4 ⟨l1,l2,AHeap.get_set_same _ _ _,l4.frame (Nat.le_refl _) fun j hj=>AHeap.get_set_ne _ _ (l5 j hj).2,l5,hlates.1,hlates.2.1⟩ (fun h5 hn hk=>(SlRd.from ((z1.keep c2 (fun q=>q)) h5 hn hk) (fun _=>rfl) hml .i64).2) (k:=k) (r:=r) a.hr a.hx hpu) ?_
    rintro v h5 ⟨γ',P5,N5⟩
    simp -implicitDefEqProofs (disch:=first|exact dz _|fail) only [↓qJ,qK,qL,qA,qB,qC,qD,qE,↓reduceIte,qG,qH,qI]
    subst hQ
    exact ⟨γ',P5,(N1.trans (Nxt.tmp c2)).trans N5⟩
   ·cases hp
 ·-- ret
  simp only [Int.reduceEq,if_false,if_true,Option.bind_eq_some_iff] at hp
  obtain ⟨args,hargs,hp⟩:=hp
  simp -implicitDefEqProofs (disch:=first|exact dz _|fail) only [↓qJ,qK,qL,qA,qB,qC,qD,qE,↓reduceIte,qG,qH,qI,gt,hq]
  refine trCall_of (values q1.slots.rd z1.now hargs) ?_
  rintro v h2 ⟨F2,f2,S2⟩
  obtain ⟨K2,hK2⟩:∃ K2:Nat→Tag,K2=fun j=>if h1.n≤j∧j∈F2 then Tag.ro else γ.K j:=⟨_,rfl⟩
  have Ko:∀ j,j<h1.n→K2 j=γ.K j:=fun j hj=>by rw [hK2];exact if_neg (by omega)
  have c2:Chg (fun _=>False) h1 h2 γ.K K2:=(Chg.n0 f2).tag Ko
  have hq2:=(c2.keep hqlt q1.kid (fun q=>q)).trans hq
  have lti2:=Nat.lt_of_lt_of_le hqlt c2.n
  have kk2:∀ j,K2 j≠.no→j<h2.n:=fun j hj=>by
   by_cases e:h1.n≤j∧j∈F2
   ·exact f2.lt j e.2
   ·rw [hK2] at hj;simp only [if_neg e] at hj
    exact Nat.lt_of_lt_of_le (P1.k0 j hj) c2.n
  have hV:Ro h2 K2 fun h=>SlRd h 1 encP v args:=Ro.of S2 fun j hj=>by
   rcases f2.new j hj with e | e
   ·simp at e
   ·rw [hK2];exact if_pos ⟨e,hj⟩
  have vc:=S2.cells
  have ki2:K2 i=.fr k j:=(c2.k _ hqlt).trans q1.kid
  have q2:=q1.keep c2 (fun q=>q) (fun q=>q) (fun q=>q) (fun q=>q)
  have cc:=fun o o'=>((Chg.refl (·=.fr k j) h2 K2).set (i:=i) (fun _=>ki2) o).set (i:=i) (fun _=>ki2) o'
  simp -implicitDefEqProofs (disch:=first|exact dz _|fail) only [↓qJ,qK,qL,qA,qB,qC,qD,qE,↓reduceIte,qG,qH,qI,gt,hq2,vc.1,vc.2]
  have q3:FrV ((h2.set i (.cells 0 false [.int .i64 f.fn,.int .i64 f.pc,.int .u64 f.serial,sv,iv,lv,.int .i64 f.mode,.bool true,vv])).set i (.cells 0 false [.int .i64 f.fn,.int .i64 f.pc,.int .u64 f.serial,sv,iv,lv,.int .i64 f.mode,.bool true,v])) K2 k j i { f with ending:=true,saved:=args } sv iv lv v la :=
   ⟨ki2,lti2,AHeap.get_set_same _ _ _,q2.slots.keep (cc _ _) Tag.noConfusion,q2.into.keep (cc _ _) Tag.noConfusion,q2.lates.keep (cc _ _) Tag.noConfusion,q2.args.mono fun _ _ _ _ _ q=>⟨q.1,q.2.keep (cc _ _) Tag.noConfusion⟩,hV.keep (cc _ _) Tag.noConfusion⟩
  obtain ⟨P3,N3⟩:=P1.setFr ((c2.wide (T1:=(·=.fr k j)) fun _ q=>q.elim).trans (cc (.cells 0 false [.int .i64 f.fn,.int .i64 f.pc,.int .u64 f.serial,sv,iv,lv,.int .i64 f.mode,.bool true,vv]) (.cells 0 false [.int .i64 f.fn,.int .i64 f.pc,.int .u64 f.serial,sv,iv,lv,.int .i64 f.mode,.bool true,v]))) (fun t q=>.inl q) kk2 a1 ⟨_,_,_,_,_,q3⟩
  refine callI_of (iLeave P3 hp (x:=x) (List.getElem?_set_self (List.getElem?_eq_some_iff.1 a.hr).1) a.hx) ?_
  rintro v h5 ⟨γ',P5,N5⟩
  simp -implicitDefEqProofs (disch:=first|exact dz _|fail) only [↓qJ,qK,qL,qA,qB,qC,qD,qE,↓reduceIte,qG,qH,qI]
  subst hQ
  exact ⟨γ',P5,(N1.trans N3).trans N5⟩
 ·-- go
  simp only [Int.reduceEq,if_false,if_true] at hp
  have hgl:=P1.gs.len
  have eg:(γ.gs.map (·.1)).length=R.gs.length:=by rw [List.length_map];exact P1.gsAll.1
  rw [eg] at hgl
  by_cases c1:R.gs.length=64
  ·rw [if_pos c1] at hp
   have d1:decide ((R.gs.length:Int)=64)=true:=decide_eq_true (by omega)
   simp -implicitDefEqProofs (disch:=first|exact dz _|fail) only [↓qJ,qK,qL,qA,qB,qC,qD,qE,↓reduceIte,qG,qH,qI,gt,ho,hgl,d1]
   refine callI_of (tell P1 hp) ?_
   rintro v h3 ⟨γ',P3,N3⟩
   simp -implicitDefEqProofs (disch:=first|exact dz _|fail) only [↓qJ,qK,qL,qA,qB,qC,qD,qE,↓reduceIte,qG,qH,qI]
   subst hQ
   exact ⟨γ',P3,N1.trans N3⟩
  ·rw [if_neg c1] at hp
   have d1:decide ((R.gs.length:Int)=64)=false:=decide_eq_false (by omega)
   simp only [Option.bind_eq_some_iff] at hp
   obtain ⟨args,hargs,hp⟩:=hp
   simp -implicitDefEqProofs (disch:=first|exact dz _|fail) only [↓qJ,qK,qL,qA,qB,qC,qD,qE,↓reduceIte,qG,qH,qI,gt,ho,hgl,d1,hq]
   refine trCall_of (values q1.slots.rd z1.now hargs) ?_
   rintro v h2 ⟨F2,f2,S2⟩
   have c2:Chg (fun _=>False) h1 h2 γ.K γ.K:=Chg.n0 f2
   have P2:=P1.tmp c2
   have gt2:=(c2.keep lt kn (fun q=>q)).trans gt
   have lt2:=Nat.lt_of_lt_of_le lt c2.n
   simp -implicitDefEqProofs (disch:=first|exact dz _|fail) only [↓qJ,qK,qL,qA,qB,qC,qD,qE,↓reduceIte,qG,qH,qI]
   refine trCall_of (beginG P2 S2.rd hp) ?_
   rintro v h3 ⟨γ',P3,N3⟩
   simp -implicitDefEqProofs (disch:=first|exact dz _|fail) only [↓qJ,qK,qL,qA,qB,qC,qD,qE,↓reduceIte,qG,qH,qI,gt,gt2]
   subst hQ
   exact ⟨γ',P3,(N1.trans (Nxt.tmp c2)).trans N3⟩
 ·-- defer
  simp only [Int.reduceEq,if_false,if_true] at hp
  by_cases c1:64≤r.frames.length
  ·rw [if_pos (.inl c1)] at hp
   have d1:decide ((64:Int)≤(x.2.length:Int))=true:=decide_eq_true (by omega)
   simp -implicitDefEqProofs (disch:=first|exact dz _|fail) only [↓qJ,qK,qL,qA,qB,qC,qD,qE,↓reduceIte,qG,qH,qI,gt,hro,hfl,d1]
   refine callI_of (panic P1 hp) ?_
   rintro v h3 ⟨γ',P3,N3⟩
   simp -implicitDefEqProofs (disch:=first|exact dz _|fail) only [↓qJ,qK,qL,qA,qB,qC,qD,qE,↓reduceIte,qG,qH,qI]
   subst hQ
   exact ⟨γ',P3,N1.trans N3⟩
  ·have d1:decide ((64:Int)≤(x.2.length:Int))=false:=decide_eq_false (by omega)
   by_cases c2:f.lates.length=16
   ·rw [if_pos (.inr c2)] at hp
    have d2:decide ((la.length:Int)=16)=true:=decide_eq_true (by omega)
    simp -implicitDefEqProofs (disch:=first|exact dz _|fail) only [↓qJ,qK,qL,qA,qB,qC,qD,qE,↓reduceIte,qG,qH,qI,gt,hro,hfl,d1,hq,hql,d2]
    refine callI_of (panic P1 hp) ?_
    rintro v h3 ⟨γ',P3,N3⟩
    simp -implicitDefEqProofs (disch:=first|exact dz _|fail) only [↓qJ,qK,qL,qA,qB,qC,qD,qE,↓reduceIte,qG,qH,qI]
    subst hQ
    exact ⟨γ',P3,N1.trans N3⟩
   ·rw [if_neg (by rintro (e | e);exact c1 e;exact c2 e)] at hp
    have d2:decide ((la.length:Int)=16)=false:=decide_eq_false (by omega)
    simp only [Option.bind_eq_some_iff,Option.map_eq_some_iff] at hp
    obtain ⟨args,hargs,l,hl,rfl⟩:=hp
    unfold app? at hl
    split at hl
    ·rename_i hb
     cases hl
     simp -implicitDefEqProofs (disch:=first|exact dz _|fail) only [↓qJ,qK,qL,qA,qB,qC,qD,qE,↓reduceIte,qG,qH,qI,gt,hro,hfl,d1,hq,hql,d2]
     refine trCall_of (values q1.slots.rd z1.now hargs) ?_
     rintro v h2 ⟨F2,f2,S2⟩
     obtain ⟨K2,hK2⟩:∃ K2:Nat→Tag,K2=fun j=>if h1.n≤j∧j∈F2 then Tag.ro else γ.K j:=⟨_,rfl⟩
     have Ko:∀ j,j<h1.n→K2 j=γ.K j:=fun j hj=>by rw [hK2];exact if_neg (by omega)
     have c2:Chg (fun _=>False) h1 h2 γ.K K2:=(Chg.n0 f2).tag Ko
     have hq2:=(c2.keep hqlt q1.kid (fun q=>q)).trans hq
     have lti2:=Nat.lt_of_lt_of_le hqlt c2.n
     have gt2:=(c2.keep lt kn (fun q=>q)).trans gt
     have lt2:=Nat.lt_of_lt_of_le lt c2.n
     have kk2:∀ j,K2 j≠.no→j<h2.n:=fun j hj=>by
      by_cases e:h1.n≤j∧j∈F2
      ·exact f2.lt j e.2
      ·rw [hK2] at hj;simp only [if_neg e] at hj
       exact Nat.lt_of_lt_of_le (P1.k0 j hj) c2.n
     have hV:Ro h2 K2 fun h=>SlRd h 1 encP v args:=Ro.of S2 fun j hj=>by
      rcases f2.new j hj with e | e
      ·simp at e
      ·rw [hK2];exact if_pos ⟨e,hj⟩
     have vc:=S2.cells
     have ki2:K2 i=.fr k j:=(c2.k _ hqlt).trans q1.kid
     have kn2:K2 h.n=.no:=(c2.k _ lt).trans kn
     have q2:=q1.keep c2 (fun q=>q) (fun q=>q) (fun q=>q) (fun q=>q)
     simp -implicitDefEqProofs (disch:=first|exact dz _|fail) only [↓qJ,qK,qL,qA,qB,qC,qD,qE,↓reduceIte,qG,qH,qI,vc.1,vc.2]
     refine trOp_of (q2.lates.app1 (fun _=>rfl) (za,v) (by simp only [List.all_cons,vc.2];rfl) (by omega) fun v' h3 K3 s3 c3 kk3=>?_)
     have hq3:=(c3.keep lti2 ki2 Tag.noConfusion).trans hq2
     have gt3:=(c3.keep lt2 kn2 Tag.noConfusion).trans gt2
     have lt3:=Nat.lt_of_lt_of_le lt2 c3.n
     have lti3:=Nat.lt_of_lt_of_le lti2 c3.n
     have sc:=s3.cells
     have lb:=q1.lates.beq
     have ki3:K3 i=.fr k j:=(c3.k _ lti2).trans ki2
     have ne:h.n≠i:=fun e=>by rw [←e] at ki2;rw [kn2] at ki2;cases ki2
     simp -implicitDefEqProofs (disch:=first|exact dz _|fail) only [↓qJ,qK,qL,qA,qB,qC,qD,qE,↓reduceIte,qG,qH,qI,gt,gt2,gt3,hq,hq2,hq3,sc.1,sc.2,lb,ne]
     have cc:=(Chg.refl (·=.fr k j) h3 K3).set (i:=i) (fun _=>ki3) (.cells 0 false [.int .i64 f.fn,.int .i64 f.pc,.int .u64 f.serial,sv,iv,v',.int .i64 f.mode,.bool f.ending,vv])
     have q4:FrV (h3.set i (.cells 0 false [.int .i64 f.fn,.int .i64 f.pc,.int .u64 f.serial,sv,iv,v',.int .i64 f.mode,.bool f.ending,vv])) K3 k j i { f with lates:=f.lates++[⟨za,args⟩] } sv iv v' vv (la++[(za,v)]) :=
      ⟨ki3,lti3,AHeap.get_set_same _ _ _,(q2.slots.keep c3 Tag.noConfusion).keep cc Tag.noConfusion,(q2.into.keep c3 Tag.noConfusion).keep cc Tag.noConfusion,s3.keep cc Tag.noConfusion,(q2.args.mono fun _ _ _ _ _ q=>⟨q.1,(q.2.keep c3 Tag.noConfusion).keep cc Tag.noConfusion⟩).snoc ⟨rfl,(hV.keep c3 Tag.noConfusion).keep cc Tag.noConfusion⟩,(q2.saved.keep c3 Tag.noConfusion).keep cc Tag.noConfusion⟩
     obtain ⟨P3,N3⟩:=P1.setFr (((c2.wide (T1:=FrTag k j) fun _ q=>q.elim).trans (c3.wide fun t q=>.inr (.inr q))).trans (cc.wide fun t q=>.inl q)) (fun t q=>q) (fun j hj=>by
      rcases kk3 j with e | e
      ·exact Nat.lt_of_lt_of_le (kk2 j (by rw [←e];exact hj)) c3.n
      ·exact e.2) a1 ⟨_,_,_,_,_,q4⟩
     subst hQ
     exact ⟨_,P3,N1.trans N3⟩
    ·cases hl
 ·-- panic
  simp only [Int.reduceEq,if_false,if_true,Option.bind_eq_some_iff] at hp
  obtain ⟨w,hw,hp⟩:=hp
  obtain ⟨id,g,off,vs,x1,x2,x3,x4⟩:=q1.slots.ix (enc:=fun n=>.int .u64 n) hw
  simp -implicitDefEqProofs (disch:=first|exact dz _|fail) only [↓qJ,qK,qL,qA,qB,qC,qD,qE,↓reduceIte,qG,qH,qI,gt,hq,x1,x2,x4]
  refine trCall_of (panic P1 hp) ?_
  rintro v h3 ⟨γ',P3,N3⟩
  simp -implicitDefEqProofs (disch:=first|exact dz _|fail) only [↓qJ,qK,qL,qA,qB,qC,qD,qE,↓reduceIte,qG,qH,qI]
  subst hQ
  exact ⟨γ',P3,N1.trans N3⟩
 ·-- recover
  simp only [Int.reduceEq,if_false,if_true] at hp
  have two:∃ s1 s2,set? f.slots za 0=some s1∧set? s1 zb 0=some s2:=by
   split at hp<;>simp only [Option.bind_eq_some_iff,Option.map_eq_some_iff] at hp
   ·obtain ⟨s1,e1,s2,e2,_⟩:=hp;exact ⟨s1,s2,e1,e2⟩
   ·obtain ⟨s1,e1,s2,e2,_⟩:=hp;exact ⟨s1,s2,e1,e2⟩
  obtain ⟨s1,s2,e1,e2⟩:=two
  simp only [e1,e2,Option.bind_some,Option.map_some] at hp
  obtain ⟨rfl,w0,hw0⟩:=set?_some e1
  obtain ⟨rfl,w1,hw1⟩:=set?_some e2
  obtain ⟨id1,g1,o1,vs1,x1,x2,x3,x4,x5,x6,x7⟩:=q1.put hw0
  obtain ⟨C2,q2⟩:=x7 0
  obtain ⟨id2,g2,o2,vs2,y1,y2,y3,y4,y5,y6,y7⟩:=q2.put hw1
  obtain ⟨C3,q3⟩:=y7 0
  have ne1:h.n≠id1:=fun e=>by rw [←e] at x1;rw [kn] at x1;cases x1
  have ne2:h.n≠id2:=fun e=>by rw [←e] at y1;rw [kn] at y1;cases y1
  have ni1:i≠id1:=fun e=>by rw [←e] at x1;have:=q1.kid.symm.trans x1;cases this
  have ni2:i≠id2:=fun e=>by rw [←e] at y1;have:=q1.kid.symm.trans y1;cases this
  have nr1:x.1≠id1:=fun e=>by rw [←e] at x1;have:=s1.kid.symm.trans x1;cases this
  have nr2:x.1≠id2:=fun e=>by rw [←e] at y1;have:=s1.kid.symm.trans y1;cases this
  have cellsz:(AVal.int IntKind.u64 0).cell=true:=rfl
  by_cases c1:f.mode=2
  ·have d1:decide (f.mode=2)=true:=decide_eq_true c1
   cases c2:r.panics with
   | true =>
    rw [if_pos ⟨c1,c2⟩] at hp
    simp only [Option.bind_eq_some_iff,Option.map_eq_some_iff] at hp
    obtain ⟨s3,e3,s4,e4,rfl⟩:=hp
    obtain ⟨rfl,w3,hw3⟩:=set?_some e3
    obtain ⟨rfl,w4,hw4⟩:=set?_some e4
    obtain ⟨id3,g3,o3,vs3,u1,u2,u3,u4,u5,u6,u7⟩:=q3.put hw3
    obtain ⟨C4,q4⟩:=u7 (u64 r.number)
    obtain ⟨id4,g4,o4,vs4,v1,v2,v3,v4,v5,v6,v7⟩:=q4.put hw4
    obtain ⟨C5,q5⟩:=v7 1
    have ne3:h.n≠id3:=fun e=>by rw [←e] at u1;rw [kn] at u1;cases u1
    have ne4:h.n≠id4:=fun e=>by rw [←e] at v1;rw [kn] at v1;cases v1
    have ni3:i≠id3:=fun e=>by rw [←e] at u1;have:=q1.kid.symm.trans u1;cases this
    have ni4:i≠id4:=fun e=>by rw [←e] at v1;have:=q1.kid.symm.trans v1;cases this
    have nr3:x.1≠id3:=fun e=>by rw [←e] at u1;have:=s1.kid.symm.trans u1;cases this
    have nr4:x.1≠id4:=fun e=>by rw [←e] at v1;have:=s1.kid.symm.trans v1;cases this
    obtain ⟨P5,N5⟩:=P1.setFr (((C2.trans C3).trans C4).trans C5) (fun t q=>.inr (.inl q)) (fun j hj=>P1.k0 j hj) a1 ⟨_,_,_,_,_,q5⟩
    simp only [u64] at C4 q4 C5 q5 P5 N5 v2 v3 v4 v6 v5
    simp -implicitDefEqProofs (disch:=first|exact dz _|fail) only [↓qJ,qK,qL,qA,qB,qC,qD,qE,↓reduceIte,qG,qH,qI,gt,hq,hro,x2,x4,x6,y2,y4,y6,u2,u4,u6,v2,v4,v6,d1,c2,ne1,ne2,ne3,ne4,ni1,ni2,ni3,ni4,nr1,nr2,nr3,nr4]
    have s5:=s1.setF (((C2.trans C3).trans C4).trans C5) (fun t q=>.inr (.inl q)) a.hf a.hi ⟨_,_,_,_,_,q5⟩
    obtain ⟨P6,N6⟩:=P5.setRow0 (r':={ r.setF j { f with slots:=(((f.slots.set za.toNat 0).set zb.toNat 0).set za.toNat (u64 r.number)).set zb.toNat 1 } with panics:=false }) ((Chg.refl (·=.rt k) _ γ.K).set (i:=x.1) (fun _=>s.kid) (.cells 0 false [.int .i64 r.state,.int .u64 r.till,.bool r.sleeps,fv,.int .u64 r.serial,.bool false,.int .i64 r.number,.bool r.hit])) (List.getElem?_set_self (List.getElem?_eq_some_iff.1 a.hr).1) a.hx s5 rfl (AHeap.get_set_same _ _ _)
    rw [setR_setR] at P6
    subst hQ
    exact ⟨_,P6,(N1.trans N5).trans N6⟩
   | false =>
    rw [if_neg (fun q=>by rw [c2] at q;cases q.2)] at hp
    cases hp
    obtain ⟨P3,N3⟩:=P1.setFr (C2.trans C3) (fun t q=>.inr (.inl q)) (fun j hj=>P1.k0 j hj) a1 ⟨_,_,_,_,_,q3⟩
    simp -implicitDefEqProofs (disch:=first|exact dz _|fail) only [↓qJ,qK,qL,qA,qB,qC,qD,qE,↓reduceIte,qG,qH,qI,gt,hq,hro,x2,x4,x6,y2,y4,y6,d1,c2,ne1,ne2,ni1,ni2,nr1,nr2]
    subst hQ
    exact ⟨_,P3,N1.trans N3⟩
  ·have d1:decide (f.mode=2)=false:=decide_eq_false c1
   rw [if_neg (fun q=>c1 q.1)] at hp
   cases hp
   obtain ⟨P3,N3⟩:=P1.setFr (C2.trans C3) (fun t q=>.inr (.inl q)) (fun j hj=>P1.k0 j hj) a1 ⟨_,_,_,_,_,q3⟩
   simp -implicitDefEqProofs (disch:=first|exact dz _|fail) only [↓qJ,qK,qL,qA,qB,qC,qD,qE,↓reduceIte,qG,qH,qI,gt,hq,hro,x2,x4,x6,y2,y4,y6,d1,ne1,ne2,ni1,ni2,nr1,nr2]
   subst hQ
   exact ⟨_,P3,N1.trans N3⟩
end
end Go.Proofs.Ytnbnpjhlflcjeaa.Id
namespace Go.Proofs.Ytnbnpjhlflcjeaa.Id
open Go Go.AM Go.Proofs.Ytnbnpjhlflcjeaa.AmGF
open Nat renaming reduceAdd → qA,reduceLeDiff → qB,reduceEqDiff → qC,reduceLT → qE
open Int renaming reduceToNat → qD,reduceEq → qG,reduceLT → qH,reduceLE → qI
theorem smallQ_some {s s':CS} (e:smallQ s=some s'):s'=s∧s.small:=by
 unfold smallQ at e
 split at e
 ·rename_i h
  cases e
  simp only [smallB,Bool.and_eq_true,decide_eq_true_eq] at h
  exact ⟨rfl,h.1.1,h.1.2,h.2⟩
 ·cases e
def TC (t:Tag):Prop:=∃ n,t=.chan n
theorem TC.no {t:Tag} (h:∀ n,t≠.chan n):¬ TC t:=fun ⟨n,e⟩=>h n e
section
variable {h0 h h':AHeap} {K:Nat→Tag} {γ:GI} {R:Run}
theorem channel_some {w:Int} {s:CS} (e:R.channel w=some (some s)):∃ t,at? R.things w=some t∧t.ch=some s:=by
 unfold Run.channel at e
 split at e
 ·cases e
 ·simp only [Option.map_eq_some_iff] at e
  exact e
theorem RunP.setChan (P:RunP h γ R) {w:Int} {y:Int×AVal×AVal} (hy:at? γ.th w=some y) {c:Nat} {F F':List Nat} {s s':CS} (hc:R.channel w=some (some s)) (ec:y.2.2=.ptr c 0 0) (H:ChanAt h c s F) (kF:∀ j,j∈F→γ.K j=.chan w.toNat) (f:HFrame h h' F F') (H':ChanAt h' c s' F') :
  ∃ K',RunP h' { γ with K:=K' } (R.setCh w s')∧Nxt h h' γ { γ with K:=K' }∧Chg (·=.chan w.toNat) h h' γ.K K'∧∀ j,j ∉ F'→K' j=γ.K j:=by
 obtain ⟨t,ht,htc⟩:=channel_some hc
 obtain ⟨h0,ht1,_⟩:=at?_nat ht
 have hy1:=(at?_nat hy).2.1
 have q:=P.thAll.2 _ _ _ hy1 ht1
 obtain ⟨K',hK'⟩:∃ K':Nat→Tag,K'=fun j=>if h.n≤j∧j∈F' then Tag.chan w.toNat else γ.K j:=⟨_,rfl⟩
 have Ko:∀ j,j<h.n→K' j=γ.K j:=fun j hj=>by rw [hK'];exact if_neg (by omega)
 have c0:Chg (·=.chan w.toNat) h h' γ.K K':=(Chg.of f fun j hj _=>kF j hj).tag Ko
 refine ⟨K',?_,?_,c0,fun j hj=>by rw [hK'];exact if_neg fun q=>hj q.2⟩
 ·have:=(P.setTh (n:=w.toNat) (t':={ t with ch:=some s' }) (c0.wide fun t q=>Or.inr q) (fun j hj=>?_) hy1 ht1 ⟨q.kind,q.words.keep c0 Tag.noConfusion,⟨c,F',ec,H',fun j hj=>?_⟩⟩).1
  ·unfold Run.setCh;rw [ht];exact this
  ·by_cases e:h.n≤j∧j∈F'
   ·exact f.lt j e.2
   ·rw [hK'] at hj;simp only [if_neg e] at hj
    exact Nat.lt_of_lt_of_le (P.k0 j hj) c0.n
  ·rcases f.new j hj with e | e
   ·rw [Ko j (H.lt j e)];exact kF j e
   ·rw [hK'];exact if_pos ⟨e,hj⟩
 ·exact ⟨c0.wide fun t q=>by rw [q];exact Tag.noConfusion,rfl,fun k x e=>⟨x.2,e⟩⟩
theorem setCh_gs (w:Int) (s:CS):(R.setCh w s).gs=R.gs∧(R.setCh w s).p=R.p∧(R.setCh w s).g=R.g:=by
 unfold Run.setCh;split<;>exact ⟨rfl,rfl,rfl⟩
theorem RtV.row {k id:Nat} {fr:List Nat} {r r':Routine} {fv:AVal} (s:RtV h K k id fr r fv) (c:Chg (·=.rt k) h h' K K) (hm:r'.frames=r.frames) (obj:h'.get id=.cells 0 false [.int .i64 r'.state,.int .u64 r'.till,.bool r'.sleeps,fv,.int .u64 r'.serial,.bool r'.panics,.int .i64 r'.number,.bool r'.hit]):RtV h' K k id fr r' fv :=
 ⟨s.kid,Nat.lt_of_lt_of_le s.lt c.n,obj,s.frs.keep c Tag.noConfusion,by rw [hm];exact s.all.mono fun _ _ _ _ _ q=>q.keep c Tag.noConfusion Tag.noConfusion Tag.noConfusion Tag.noConfusion⟩
theorem drop3 {l:List Int} {n:Nat} {a c b:Int} {rest:List Int} (e:l.drop n=a::c::b::rest):l[n]?=some a∧l[n+1]?=some c∧l[n+2]?=some b∧l.drop (n+3)=rest:=by
 have h1:(l.drop n)[0]?=some a:=by rw [e];rfl
 have h2:(l.drop n)[1]?=some c:=by rw [e];rfl
 have h3:(l.drop n)[2]?=some b:=by rw [e];rfl
 rw [List.getElem?_drop] at h1 h2 h3
 refine ⟨h1,h2,h3,?_⟩
 rw [←List.drop_drop,e];rfl
theorem leaveAll_drop {sl:List Int} {g:Int} {Rf:Run} {m:Nat} {l:List Int} (hn:3*m<l.length) (hp:leaveAll sl g R m (l.drop (3*m))=some Rf) :
  ∃ c w s,l[3*m+1]?=some c∧at? sl c=some w∧R.channel w=some s∧((s=none∧leaveAll sl g R (m+1) (l.drop (3*(m+1)))=some Rf)∨∃ s',s=some s'∧s'.small∧leaveAll sl g (R.setCh w (leaveS s' (nameI g (m:Nat)))) (m+1) (l.drop (3*(m+1)))=some Rf):=by
 cases hd:l.drop (3*m) with
 | nil=>have:=congrArg List.length hd;rw [List.length_drop] at this;simp at this;omega
 | cons a t =>
  cases t with
  | nil=>rw [hd] at hp;simp [leaveAll] at hp
  | cons c t =>
   cases t with
   | nil=>rw [hd] at hp;simp [leaveAll] at hp
   | cons b rest =>
    obtain ⟨_,e2,_,e4⟩:=drop3 hd
    rw [hd] at hp
    simp only [leaveAll,Option.bind_eq_some_iff] at hp
    obtain ⟨w,hw,s,hs,hp⟩:=hp
    have e5:l.drop (3*(m+1))=rest:=by rw [show 3*(m+1)=3*m+3 by omega];exact e4
    refine ⟨c,w,s,e2,hw,hs,?_⟩
    cases s with
    | none=>exact .inl ⟨rfl,by rw [e5];exact hp⟩
    | some s' =>
     simp only [Option.bind_eq_some_iff] at hp
     obtain ⟨s2,hs2,hp⟩:=hp
     obtain ⟨rfl,hsm⟩:=smallQ_some hs2
     exact .inr ⟨_,rfl,hsm,by rw [e5];exact hp⟩
set_option maxHeartbeats 16000000 in
theorem wake (P:RunP h γ R) {who value:Int} {closed:Bool} {R':Run} (hp:R.wake who value closed=some R'):CallP AP 104 [.ptr γ.d 0 0,.int .i64 who,.int .u64 value,.bool closed] h fun v h'=>∃ γ',RunP h' γ' R'∧Nxt h h' γ γ':=by
 refine callP (rfl:Tr.get AP 104=some A104) ?_
 generalize hQ:(fun (r:AVal) (h':AHeap)=>_)=Q
 unfold Run.wake at hp
 split at hp
 ·cases hp
 rename_i hwho
 simp only [Option.bind_eq_some_iff] at hp
 obtain ⟨r,hr,hp⟩:=hp
 have hw0:0≤who:=by omega
 have hw1:who≤4611686018427387904:=by omega
 have hdv:0≤who.tdiv 64∧who.tdiv 64≤who:=⟨Int.tdiv_nonneg hw0 (by omega),Int.tdiv_le_self _ hw0⟩
 have wd:IntKind.i64.wrap (who.tdiv 64)=who.tdiv 64:=wrap64 (by omega) (by omega)
 obtain ⟨hg0,hr1,_⟩:=at?_nat hr
 obtain ⟨x,fv,hx,s⟩:=P.rt hr1
 have ho:=P.obj
 have hlt:=P.ltd
 have hro:=s.obj
 have hrlt:=s.lt
 have hgx:at? (γ.gs.map (·.1)) (who.tdiv 64)=some x.1:=by unfold at?;rw [if_pos hg0,List.getElem?_map,hx];rfl
 obtain ⟨id,g,off,vs,x1,x2,x3,x4⟩:=P.gs.ix (enc:=fun id=>.ptr id 0 0) hgx
 by_cases c1:r.state=2
 ·have d1:(!decide (r.state=2))=false:=by simp [c1]
  cases c2:r.sleeps with
  | true =>
   rw [if_pos (.inr c2)] at hp
   cases hp
   simp -implicitDefEqProofs (disch:=first|exact dz _|fail) only [↓qJ,qK,qL,qA,qB,qC,qD,qE,↓reduceIte,qG,qH,qI,ho,wd,x1,x2,x4,hro,d1,c2]
   subst hQ
   exact ⟨γ,P,Nxt.refl _ _⟩
  | false =>
   rw [if_neg (by rintro (e | e);exact e c1;rw [c2] at e;cases e)] at hp
   simp only [Option.bind_eq_some_iff] at hp
   obtain ⟨_,hb,f,hf,F,hF,z,hz,hp⟩:=hp
   have hb:=lim_lt hb
   simp -implicitDefEqProofs (disch:=first|exact dz _|fail) only [↓qJ,qK,qL,qA,qB,qC,qD,qE,↓reduceIte,qG,qH,qI,ho,wd,x1,x2,x4,hro,d1,c2]
   have C1:Chg (·=.rt (who.tdiv 64).toNat) h (h.set x.1 (.cells 0 false [.int .i64 1,.int .u64 r.till,.bool false,fv,.int .u64 r.serial,.bool r.panics,.int .i64 r.number,.bool r.hit])) γ.K γ.K:=(Chg.refl (·=.rt (who.tdiv 64).toNat) h γ.K).set (fun _=>s.kid) _
   have ob1:(h.set x.1 (.cells 0 false [.int .i64 1,.int .u64 r.till,.bool false,fv,.int .u64 r.serial,.bool r.panics,.int .i64 r.number,.bool r.hit])).get x.1=.cells 0 false [.int .i64 1,.int .u64 r.till,.bool r.sleeps,fv,.int .u64 r.serial,.bool r.panics,.int .i64 r.number,.bool r.hit]:=by rw [c2];exact AHeap.get_set_same _ _ _
   obtain ⟨P1,N1⟩:=P.setRow0 (r':={ r with state:=1 }) C1 hr1 hx s rfl ob1
   have s1:=s.row (r':={ r with state:=1 }) C1 rfl ob1
   generalize (h.set x.1 (.cells 0 false [.int .i64 1,.int .u64 r.till,.bool false,fv,.int .u64 r.serial,.bool r.panics,.int .i64 r.number,.bool r.hit]))=h1 at *
   obtain ⟨i,hi,sv,iv,lv,vv,la,q⟩:=s1.fr (j:=r.frames.length-1) hf
   refine callI_of (top s1 (i:=i) hi (by show r.frames.length<_;omega)) ?_
   rintro v h2 ⟨rfl,rfl⟩
   have ex:∀ k,(R.setR k { r with state:=1 }).p=R.p:=fun _=>rfl
   simp -implicitDefEqProofs (disch:=first|exact dz _|fail) only [↓qJ,qK,qL,qA,qB,qC,qD,qE,↓reduceIte,qG,qH,qI]
   refine callI_of (ins P1 q hF hz) ?_
   rintro v h3 ⟨zv,rfl,z3,c3⟩
   have P3:=P1.tmp c3
   have q3:=q.keep c3 (fun q=>q) (fun q=>q) (fun q=>q) (fun q=>q)
   have s3:=s1.keep c3 (fun q=>q) (fun q=>q) (fun q=>q) (fun k=>⟨fun q=>q,fun q=>q,fun q=>q⟩)
   have c4:=Chg.tmp h3 γ.K (.cells 0 false [.int .i64 0,.int .i64 0,.int .i64 0,.int .i64 0,.int .u64 0,.nils]) (.cells 0 false (rowI z zv))
   have P4:=P3.tmp c4
   have q4:=q3.keep c4 (fun q=>q) (fun q=>q) (fun q=>q) (fun q=>q)
   have s4:=s3.keep c4 (fun q=>q) (fun q=>q) (fun q=>q) (fun k=>⟨fun q=>q,fun q=>q,fun q=>q⟩)
   have z4:=z3.keep c4 (fun q=>q)
   have zc:=z3.now.cells
   have kn:=P3.kn
   have gt:((h3.push (.cells 0 false [.int .i64 0,.int .i64 0,.int .i64 0,.int .i64 0,.int .u64 0,.nils])).set h3.n (.cells 0 false (rowI z zv))).get h3.n=.cells 0 false (rowI z zv):=AHeap.get_set_same _ _ _
   have lt:h3.n<((h3.push (.cells 0 false [.int .i64 0,.int .i64 0,.int .i64 0,.int .i64 0,.int .u64 0,.nils])).set h3.n (.cells 0 false (rowI z zv))).n:=by simp
   have N4:Nxt h _ γ γ:=(N1.trans (Nxt.tmp c3)).trans (Nxt.tmp c4)
   simp only [rowI] at gt lt N4 P4 q4 s4 z4
   simp -implicitDefEqProofs (disch:=first|exact dz _|fail) only [↓qJ,qK,qL,qA,qB,qC,qD,qE,↓reduceIte,qG,qH,qI,zc.1,zc.2]
   generalize ((h3.push (.cells 0 false [.int .i64 0,.int .i64 0,.int .i64 0,.int .i64 0,.int .u64 0,.nils])).set h3.n (.cells 0 false [.int .i64 z.op,.int .i64 z.a,.int .i64 z.b,.int .i64 z.c,.int .u64 z.imm,zv]))=h4 at *
   generalize h3.n=t at *
   have hro4:=s4.obj
   have hrlt4:=s4.lt
   have hq4:=q4.obj
   have hqlt4:=q4.lt
   have hx4:(R.setR (who.tdiv 64).toNat { r with state:=1 }).gs[(who.tdiv 64).toNat]?=some { r with state:=1 }:=List.getElem?_set_self (List.getElem?_eq_some_iff.1 hr1).1
   have a4:At h4 γ (R.setR (who.tdiv 64).toNat { r with state:=1 }) (who.tdiv 64).toNat (r.frames.length-1) { r with state:=1 } f x i:=⟨hx4,hf,hx,hi⟩
   simp only at hro4
   clear c3 c4 z3 q3 s3 P3
   by_cases c5:z.op=45
   ·have d5:(!decide (z.op=45))=false:=by simp [c5]
    rw [if_neg (fun q=>q c5)] at hp
    simp only [Option.bind_eq_some_iff] at hp
    obtain ⟨_,hll,Rf,hL,s1',e1,dir,hdir,hp⟩:=hp
    have hll:=lim_lt hll
    have htm:0≤who.tmod 64∧who.tmod 64<64:=⟨Int.tmod_nonneg _ hw0,Int.tmod_lt_of_pos _ (by omega)⟩
    have wk:IntKind.i64.wrap (who.tmod 64-1)=who.tmod 64-1:=wrap64 (by omega) (by omega)
    simp -implicitDefEqProofs (disch:=first|exact dz _|fail) only [↓qJ,qK,qL,qA,qB,qC,qD,qE,↓reduceIte,qG,qH,qI,gt,d5,wk]
    refine loopI_of (fun c e h5=>∃ (m:Nat) (Km:Nat→Tag) (Rm:Run),c=z.list.length+3-3*m∧e.val 0=.ptr γ.d 0 0∧e.val 1=.int .i64 who∧e.val 2=.int .u64 value∧e.val 3=.bool closed∧e.val 8=.ptr x.1 0 0∧e.val 9=.ptr i 0 0∧e.val 10=.ptr t 0 0∧e.val 11=.int .i64 (who.tmod 64-1)∧e.val 12=.int .i64 ((3*m:Nat):Int) ∧
     Chg TC h4 h5 γ.K Km∧RunP h5 { γ with K:=Km } Rm∧Rm.gs=(R.setR (who.tdiv 64).toNat { r with state:=1 }).gs∧leaveAll f.slots (who.tdiv 64) Rm m (z.list.drop (3*m))=some Rf∧Nxt h h5 γ { γ with K:=Km }) (z.list.length+3) ?_ ?_
    ·refine ⟨0,γ.K,_,by omega,?_,?_,?_,?_,?_,?_,?_,?_,?_,Chg.refl _ _ _,P4,rfl,hL,N4⟩<;>(simp -implicitDefEqProofs (disch:=first|exact dz _|fail) only [↓qJ,qK,qL,qA,qB,qC,qD,qE,↓reduceIte,qG,qH,qI])<;>rfl
    ·rintro c e h5 ⟨m,Km,Rm,hcm,y0,y1,y2,y3,y8,y9,y10,y11,y12,C5,P5,hgs,hL,N5⟩
     have n1:∀ {t:Tag},(∀ n,t≠.chan n)→¬ TC t:=TC.no
     have gt5:=(C5.keep lt kn (n1 fun _=>Tag.noConfusion)).trans gt
     have lt5:=Nat.lt_of_lt_of_le lt C5.n
     have q5:=q4.keep C5 (n1 fun _=>Tag.noConfusion) (n1 fun _=>Tag.noConfusion) (n1 fun _=>Tag.noConfusion) (n1 fun _=>Tag.noConfusion)
     have s5:=s4.keep C5 (n1 fun _=>Tag.noConfusion) (n1 fun _=>Tag.noConfusion) (n1 fun _=>Tag.noConfusion) (fun k=>⟨n1 fun _=>Tag.noConfusion,n1 fun _=>Tag.noConfusion,n1 fun _=>Tag.noConfusion⟩)
     have z5:=z4.keep C5 (n1 fun _=>Tag.noConfusion)
     have hq5:=q5.obj
     have hqlt5:=q5.lt
     have hro5:=s5.obj
     have hrlt5:=s5.lt
     have zl:=z5.now.len
     have kn5:Km t=.no:=(C5.k _ lt).trans kn
     simp only at hro5
     simp -implicitDefEqProofs (disch:=first|exact dz _|fail) only [↓qJ,qK,qL,qA,qB,qC,qD,qE,↓reduceIte,qG,qH,qI,y0,y1,y2,y3,y8,y9,y10,y11,y12,gt5,zl]
     refine cI_bool (fun hc=>?_) (fun hc=>?_)
     ·simp only [decide_eq_true_eq] at hc
      obtain ⟨cc,w,sc,hcc,hw,hch,hL⟩:=leaveAll_drop (by omega) hL
      have w1:IntKind.i64.wrap (((3*m:Nat):Int)+1)=((3*m+1:Nat):Int):=(wrap64 (by omega) (by omega)).trans (by omega)
      have w3:IntKind.i64.wrap (((3*m:Nat):Int)+3)=((3*(m+1):Nat):Int):=(wrap64 (by omega) (by omega)).trans (by omega)
      have t3:(((3*m:Nat):Int)).tdiv 3=(m:Nat):=by
       rw [show ((3*m:Nat):Int)=3*(m:Int) by omega];exact Int.mul_tdiv_cancel_left _ (by omega)
      have w4:IntKind.i64.wrap ((m:Nat):Int)=(m:Nat):=wrap64 (by omega) (by omega)
      obtain ⟨id1,g1,o1,vs1,ro1,u1,u2,u3,u4⟩:=SlRd.ixI (enc:=fun n=>.int .i64 n) z5.now (at?_of hcc)
      obtain ⟨id2,g2,o2,vs2,v1,v2,v3,v4⟩:=q5.slots.ix (enc:=fun n=>.int .u64 n) hw
      simp -implicitDefEqProofs (disch:=first|exact dz _|fail) only [↓qJ,qK,qL,qA,qB,qC,qD,qE,↓reduceIte,qG,qH,qI,y0,y1,y2,y3,y8,y9,y10,y11,y12,gt5,hq5,w1,u1,u2,u4,v1,v2,v4]
      refine trCall_of (channel P5 hch) ?_
      rintro v h6 ⟨hv,rfl⟩
      rcases hv with ⟨rfl,rfl⟩ | ⟨y,s',hy,ev,rfl,⟨ci,F',e',hca,kF'⟩⟩
      ·simp -implicitDefEqProofs (disch:=first|exact dz _|fail) only [↓qJ,qK,qL,qA,qB,qC,qD,qE,↓reduceIte,qG,qH,qI,y0,y1,y2,y3,y8,y9,y10,y11,y12,gt5,hq5,w1,w3]
       rcases hL with ⟨_,hL⟩ | ⟨s',e',_⟩
       ·exact ⟨_,by omega,m+1,Km,Rm,rfl,rfl,C5,P5,hgs,hL,N5⟩
       ·cases e'
      ·subst e'
       rcases hL with ⟨e',_⟩ | ⟨s2,e',hsm,hL⟩
       ·cases e'
       ·cases e'
        simp -implicitDefEqProofs (disch:=first|exact dz _|fail) only [↓qJ,qK,qL,qA,qB,qC,qD,qE,↓reduceIte,qG,qH,qI,y0,y1,y2,y3,y8,y9,y10,y11,y12,gt5,hq5,w1,wd,t3,w4]
        refine callI_of (name _ _ _) ?_
        rintro v h7 ⟨rfl,rfl⟩
        simp -implicitDefEqProofs (disch:=first|exact dz _|fail) only [↓qJ,qK,qL,qA,qB,qC,qD,qE,↓reduceIte,qG,qH,qI]
        refine callI_of (leave hca _ hsm) ?_
        rintro v h7 ⟨F7,f7,H7⟩
        obtain ⟨K7,P7,N7,C7,_⟩:=P5.setChan hy hch ev.symm hca kF' f7 H7
        simp -implicitDefEqProofs (disch:=first|exact dz _|fail) only [↓qJ,qK,qL,qA,qB,qC,qD,qE,↓reduceIte,qG,qH,qI,y0,y1,y2,y3,y8,y9,y10,y11,y12,w3]
        exact ⟨_,by omega,m+1,K7,_,rfl,rfl,C5.trans (C7.wide fun t q=>⟨_,q⟩),P7,by rw [(setCh_gs _ _).1];exact hgs,hL,N5.trans N7⟩
     ·simp only [decide_eq_false_iff_not] at hc
      rw [List.drop_of_length_le (by omega)] at hL
      simp only [leaveAll,Option.some.injEq] at hL
      subst hL
      have a5:At h5 { γ with K:=Km } Rm (who.tdiv 64).toNat (r.frames.length-1) { r with state:=1 } f x i:=⟨by rw [hgs];exact hx4,hf,hx,hi⟩
      obtain ⟨rfl,w0,hw0'⟩:=set?_some e1
      obtain ⟨id1,g1,o1,vs1,u1,u2,u3,u4,u5,u6,u7⟩:=q5.put hw0'
      obtain ⟨C6,q6⟩:=u7 (IntKind.u64.wrap (who.tmod 64-1))
      have ne1:t≠id1:=fun e=>by rw [←e] at u1;rw [kn5] at u1;cases u1
      have ni1:i≠id1:=fun e=>by rw [←e] at u1;have:=q5.kid.symm.trans u1;cases this
      have nr1:x.1≠id1:=fun e=>by rw [←e] at u1;have:=s5.kid.symm.trans u1;cases this
      have wk3:IntKind.i64.wrap (3*(who.tmod 64-1))=3*(who.tmod 64-1):=wrap64 (by omega) (by omega)
      have wk5:IntKind.i64.wrap (3*(who.tmod 64-1)+2)=3*(who.tmod 64-1)+2:=wrap64 (by omega) (by omega)
      have z6:=z5.keep C6 Tag.noConfusion
      obtain ⟨idd,gd,od,vsd,rod,t1,t2,t3,t4⟩:=SlRd.ixI (enc:=fun n=>.int .i64 n) z6.now hdir
      by_cases c6:dir=1
      ·rw [if_pos c6] at hp
       have d6:decide (dir=1)=true:=decide_eq_true c6
       simp only [Option.bind_eq_some_iff,Option.map_eq_some_iff] at hp
       obtain ⟨n,hn,s2',e2,rfl⟩:=hp
       obtain ⟨rfl,w1,hw1'⟩:=set?_some e2
       obtain ⟨ide,ge,oe,vse,roe,r1,r2,r3,r4⟩:=SlRd.ixI (enc:=fun n=>.int .i64 n) z6.now hn
       obtain ⟨id2,g2,o2,vs2,v1,v2,v3,v4,v5,v6,v7⟩:=q6.put hw1'
       obtain ⟨C7,q7⟩:=v7 value
       obtain ⟨P7,N7⟩:=P5.setFr (C6.trans C7) (fun t q=>.inr (.inl q)) (fun j hj=>P5.k0 j hj) a5 ⟨_,_,_,_,_,q7⟩
       simp -implicitDefEqProofs (disch:=first|exact dz _|fail) only [↓qJ,qK,qL,qA,qB,qC,qD,qE,↓reduceIte,qG,qH,qI,y0,y1,y2,y3,y8,y9,y10,y11,y12,gt5,hq5,u2,u4,u6,v2,v4,v6,ne1,ni1,t1,t2,t4,r1,r2,r4,wk3,wk5,d6]
       subst hQ
       exact ⟨_,P7,N5.trans N7⟩
      ·rw [if_neg c6] at hp
       cases hp
       have d6:decide (dir=1)=false:=decide_eq_false c6
       simp -implicitDefEqProofs (disch:=first|exact dz _|fail) only [↓qJ,qK,qL,qA,qB,qC,qD,qE,↓reduceIte,qG,qH,qI,y0,y1,y2,y3,y8,y9,y10,y11,y12,gt5,hq5,hro5,u2,u4,u6,ne1,ni1,nr1,t1,t2,t4,wk3,wk5,d6]
       obtain ⟨P7,N7⟩:=P5.setFr C6 (fun t q=>.inr (.inl q)) (fun j hj=>P5.k0 j hj) a5 ⟨_,_,_,_,_,q6⟩
       have s7:=s5.setF C6 (fun t q=>.inr (.inl q)) a5.hf a5.hi ⟨_,_,_,_,_,q6⟩
       obtain ⟨P8,N8⟩:=P7.setRow0 (r':={ ({ r with state:=1 }:Routine).setF (r.frames.length-1) { f with slots:=f.slots.set z.a.toNat (u64 (who.tmod 64-1)) } with hit:=closed }) ((Chg.refl (·=.rt (who.tdiv 64).toNat) _ Km).set (i:=x.1) (fun _=>s5.kid) (.cells 0 false [.int .i64 1,.int .u64 r.till,.bool r.sleeps,fv,.int .u64 r.serial,.bool r.panics,.int .i64 r.number,.bool closed])) (List.getElem?_set_self (List.getElem?_eq_some_iff.1 a5.hr).1) hx s7 rfl (AHeap.get_set_same _ _ _)
       rw [setR_setR] at P8
       subst hQ
       exact ⟨_,P8,(N5.trans N7).trans N8⟩
   ·have d5:(!decide (z.op=45))=true:=by simp [c5]
    rw [if_pos c5] at hp
    by_cases c6:z.op=43
    ·rw [if_pos c6] at hp
     have d6:decide (z.op=43)=true:=decide_eq_true c6
     simp only [Option.bind_eq_some_iff,Option.map_eq_some_iff] at hp
     obtain ⟨s1',e1,s2',e2,rfl⟩:=hp
     obtain ⟨rfl,w0,hw0⟩:=set?_some e1
     obtain ⟨rfl,w1,hw1⟩:=set?_some e2
     obtain ⟨id1,g1,o1,vs1,u1,u2,u3,u4,u5,u6,u7⟩:=q4.put hw0
     obtain ⟨C5,q5⟩:=u7 value
     obtain ⟨id2,g2,o2,vs2,v1,v2,v3,v4,v5,v6,v7⟩:=q5.put hw1
     obtain ⟨C6,q6⟩:=v7 (bitI (!closed))
     have ne1:t≠id1:=fun e=>by rw [←e] at u1;rw [kn] at u1;cases u1
     have ne2:t≠id2:=fun e=>by rw [←e] at v1;rw [kn] at v1;cases v1
     have ni1:i≠id1:=fun e=>by rw [←e] at u1;have:=q4.kid.symm.trans u1;cases this
     have ni2:i≠id2:=fun e=>by rw [←e] at v1;have:=q4.kid.symm.trans v1;cases this
     have sb:=q4.slots.beq
     simp -implicitDefEqProofs (disch:=first|exact dz _|fail) only [↓qJ,qK,qL,qA,qB,qC,qD,qE,↓reduceIte,qG,qH,qI,gt,d5,d6,hq4]
     refine trCall_of (bit _ _) ?_
     rintro v h5 ⟨rfl,rfl⟩
     obtain ⟨P6,N6⟩:=P4.setFr (C5.trans C6) (fun t q=>.inr (.inl q)) (fun j hj=>P4.k0 j hj) a4 ⟨_,_,_,_,_,q6⟩
     rw [setR_setR] at P6
     simp -implicitDefEqProofs (disch:=first|exact dz _|fail) only [↓qJ,qK,qL,qA,qB,qC,qD,qE,↓reduceIte,qG,qH,qI,gt,hq4,u2,u4,u6,v2,v4,v6,ne1,ne2,ni1,ni2,sb]
     subst hQ
     exact ⟨_,P6,N4.trans N6⟩
    ·rw [if_neg c6] at hp
     cases hp
     have d6:decide (z.op=43)=false:=decide_eq_false c6
     simp -implicitDefEqProofs (disch:=first|exact dz _|fail) only [↓qJ,qK,qL,qA,qB,qC,qD,qE,↓reduceIte,qG,qH,qI,gt,d5,d6,hro4]
     obtain ⟨P6,N6⟩:=P4.setRow0 (r':={ r with state:=1,hit:=closed }) ((Chg.refl (·=.rt (who.tdiv 64).toNat) h4 γ.K).set (i:=x.1) (fun _=>s4.kid) (.cells 0 false [.int .i64 1,.int .u64 r.till,.bool r.sleeps,fv,.int .u64 r.serial,.bool r.panics,.int .i64 r.number,.bool closed])) hx4 hx s4 rfl (AHeap.get_set_same _ _ _)
     rw [setR_setR] at P6
     subst hQ
     exact ⟨_,P6,N4.trans N6⟩
 ·have d1:(!decide (r.state=2))=true:=by simp [c1]
  rw [if_pos (.inl c1)] at hp
  cases hp
  simp -implicitDefEqProofs (disch:=first|exact dz _|fail) only [↓qJ,qK,qL,qA,qB,qC,qD,qE,↓reduceIte,qG,qH,qI,ho,wd,x1,x2,x4,hro,d1]
  subst hQ
  exact ⟨γ,P,Nxt.refl _ _⟩
end
end Go.Proofs.Ytnbnpjhlflcjeaa.Id
namespace Go.Proofs.Ytnbnpjhlflcjeaa.Id
open Go Go.AM Go.Proofs.Ytnbnpjhlflcjeaa.AmGF
open Nat renaming reduceAdd → qA,reduceLeDiff → qB,reduceEqDiff → qC,reduceLT → qE
open Int renaming reduceToNat → qD,reduceEq → qG,reduceLT → qH,reduceLE → qI
section
variable {h0 h h':AHeap} {K:Nat→Tag} {γ:GI} {R:Run}
theorem ChV.some {w:Int} {v:AVal} {s:CS} (c:ChV h γ w v (some s)):∃ y ci F,at? γ.th w=some y∧y.2.2=.ptr ci 0 0∧v=.ptr ci 0 0∧ChanAt h ci s F∧∀ j,j∈F→γ.K j=.chan w.toNat:=by
 rcases c with ⟨_,e⟩ | ⟨y,s',hy,rfl,e,ci,F,e2,H,kF⟩
 ·cases e
 ·cases e;exact ⟨y,ci,F,hy,e2,e2,H,kF⟩
theorem ChV.keep {T:Tag→Prop} {w:Int} {v:AVal} {s:Option CS} (c:ChV h γ w v s) (C:Chg T h h' γ.K γ.K) (nt:∀ n,¬ T (.chan n)):ChV h' γ w v s:=by
 rcases c with c | ⟨y,s',hy,e,rfl,q⟩
 ·exact .inl c
 ·exact .inr ⟨y,s',hy,e,rfl,q.keep C (nt _)⟩
set_option maxHeartbeats 4000000 in
theorem iSend (P:RunP h γ R) {w:Int} {v:AVal} {s:CS} (hv:ChV h γ w v (some s)) (hch:R.channel w=some (some s)) {who value:Int} {wait b:Bool} {R':Run} (hp:R.send w who value wait=some (b,R')) :
  CallP AP 94 [.ptr γ.d 0 0,v,.int .i64 who,.int .u64 value,.bool wait] h fun v h'=>v=.bool b∧∃ γ',RunP h' γ' R'∧Nxt h h' γ γ':=by
 refine callP (rfl:Tr.get AP 94=some A94) ?_
 generalize hQ:(fun (r:AVal) (h':AHeap)=>_)=Q
 obtain ⟨y,ci,F,hy,ey,rfl,H,kF⟩:=hv.some
 unfold Run.send at hp
 rw [hch] at hp
 simp only [Option.bind_some,Option.bind_eq_some_iff] at hp
 obtain ⟨s',hs',hp⟩:=hp
 obtain ⟨rfl,hsm⟩:=smallQ_some hs'
 simp -implicitDefEqProofs (disch:=first|exact dz _|fail) only [↓qJ,qK,qL,qA,qB,qC,qD,qE,↓reduceIte,qG,qH,qI]
 refine callI_of (send H who value wait hsm) ?_
 rintro r h1 ⟨rfl,F1,f1,H1⟩
 obtain ⟨K1,P1,N1,C1,_⟩:=P.setChan hy hch ey H kF f1 H1
 generalize (s'.send who value wait).1.1=what at *
 generalize (s'.send who value wait).1.2=ww at *
 generalize R.setCh w (s'.send who value wait).2=R1 at *
 have c2:=Chg.tmp h1 K1 (.cells 0 false [.int .i64 0,.int .i64 0,.int .u64 0]) (.cells 0 false [.int .i64 what,.int .i64 ww,.int .u64 0])
 have P2:=P1.tmp c2
 have kn:K1 h1.n=.no:=P1.kn
 have gt:((h1.push (.cells 0 false [.int .i64 0,.int .i64 0,.int .u64 0])).set h1.n (.cells 0 false [.int .i64 what,.int .i64 ww,.int .u64 0])).get h1.n=.cells 0 false [.int .i64 what,.int .i64 ww,.int .u64 0]:=AHeap.get_set_same _ _ _
 have lt:h1.n<((h1.push (.cells 0 false [.int .i64 0,.int .i64 0,.int .u64 0])).set h1.n (.cells 0 false [.int .i64 what,.int .i64 ww,.int .u64 0])).n:=by simp
 have N2:=N1.trans (Nxt.tmp (γ:={ γ with K:=K1 }) c2)
 simp -implicitDefEqProofs (disch:=first|exact dz _|fail) only [↓qJ,qK,qL,qA,qB,qC,qD,qE,↓reduceIte,qG,qH,qI]
 generalize ((h1.push (.cells 0 false [.int .i64 0,.int .i64 0,.int .u64 0])).set h1.n (.cells 0 false [.int .i64 what,.int .i64 ww,.int .u64 0]))=h2 at *
 generalize h1.n=t at *
 by_cases c1:what=2
 ·rw [if_pos c1] at hp
  simp only [Option.map_eq_some_iff,Prod.mk.injEq] at hp
  obtain ⟨R2,hw,rfl,rfl⟩:=hp
  have d1:decide (what=2)=true:=decide_eq_true c1
  have d3:decide (what=3)=false:=decide_eq_false (by omega)
  simp -implicitDefEqProofs (disch:=first|exact dz _|fail) only [↓qJ,qK,qL,qA,qB,qC,qD,qE,↓reduceIte,qG,qH,qI,gt,d1]
  refine callI_of (wake P2 hw) ?_
  rintro v h3 ⟨γ',P3,N3⟩
  have gt3:=(N3.c.keep lt kn (fun q=>q rfl)).trans gt
  have lt3:=Nat.lt_of_lt_of_le lt N3.c.n
  simp -implicitDefEqProofs (disch:=first|exact dz _|fail) only [↓qJ,qK,qL,qA,qB,qC,qD,qE,↓reduceIte,qG,qH,qI,gt3,d3]
  subst hQ
  exact ⟨rfl,γ',P3,N2.trans N3⟩
 ·rw [if_neg c1] at hp
  have d1:decide (what=2)=false:=decide_eq_false c1
  by_cases c2':what=4
  ·rw [if_pos c2'] at hp
   simp only [Option.map_eq_some_iff,Prod.mk.injEq] at hp
   obtain ⟨R2,hw,rfl,rfl⟩:=hp
   have d2:decide (what=4)=true:=decide_eq_true c2'
   have d3:decide (what=3)=false:=decide_eq_false (by omega)
   simp -implicitDefEqProofs (disch:=first|exact dz _|fail) only [↓qJ,qK,qL,qA,qB,qC,qD,qE,↓reduceIte,qG,qH,qI,gt,d1,d2]
   refine callI_of (panic P2 hw) ?_
   rintro v h3 ⟨γ',P3,N3⟩
   have gt3:=(N3.c.keep lt kn (fun q=>q rfl)).trans gt
   have lt3:=Nat.lt_of_lt_of_le lt N3.c.n
   simp -implicitDefEqProofs (disch:=first|exact dz _|fail) only [↓qJ,qK,qL,qA,qB,qC,qD,qE,↓reduceIte,qG,qH,qI,gt3,d3]
   subst hQ
   exact ⟨rfl,γ',P3,N2.trans N3⟩
  ·rw [if_neg c2'] at hp
   have d2:decide (what=4)=false:=decide_eq_false c2'
   cases hp
   simp -implicitDefEqProofs (disch:=first|exact dz _|fail) only [↓qJ,qK,qL,qA,qB,qC,qD,qE,↓reduceIte,qG,qH,qI,gt,d1,d2]
   subst hQ
   exact ⟨by simp,_,P2,N2⟩
set_option maxHeartbeats 8000000 in
theorem iRecv (P:RunP h γ R) {k j i:Nat} {r:Routine} {f:Frame} {x:Nat×List Nat} (a:At h γ R k j r f x i) {sv iv lv vv:AVal} {la:List (Int×AVal)} (q:FrV h γ.K k j i f sv iv lv vv la) {w:Int} {v:AVal} {s:CS} (hv:ChV h γ w v (some s)) (hch:R.channel w=some (some s)) {who za zo:Int} {wait b:Bool} {R':Run} (hp:R.receive k j w who za zo wait=some (b,R')) :
  CallP AP 96 [.ptr γ.d 0 0,v,.int .i64 who,sv,.int .i64 za,.int .i64 zo,.bool wait] h fun v h'=>v=.bool b∧∃ γ',RunP h' γ' R'∧Nxt h h' γ γ':=by
 refine callP (rfl:Tr.get AP 96=some A96) ?_
 generalize hQ:(fun (r:AVal) (h':AHeap)=>_)=Q
 obtain ⟨y,ci,F,hy,ey,rfl,H,kF⟩:=hv.some
 unfold Run.receive at hp
 rw [hch] at hp
 simp only [Option.bind_some,Option.bind_eq_some_iff] at hp
 obtain ⟨s',hs',hp⟩:=hp
 obtain ⟨rfl,hsm⟩:=smallQ_some hs'
 simp -implicitDefEqProofs (disch:=first|exact dz _|fail) only [↓qJ,qK,qL,qA,qB,qC,qD,qE,↓reduceIte,qG,qH,qI]
 refine callI_of (recv H who wait hsm) ?_
 rintro r1 h1 ⟨rfl,F1,f1,H1⟩
 obtain ⟨K1,P1,N1,C1,_⟩:=P.setChan hy hch ey H kF f1 H1
 have eg:(R.setCh w (s'.recv who wait).2).gs=R.gs:=(setCh_gs _ _).1
 generalize (s'.recv who wait).1.1=what at *
 generalize (s'.recv who wait).1.2.1=ww at *
 generalize (s'.recv who wait).1.2.2=wx at *
 generalize R.setCh w (s'.recv who wait).2=R1 at *
 have c2:=Chg.tmp h1 K1 (.cells 0 false [.int .i64 0,.int .i64 0,.int .u64 0]) (.cells 0 false [.int .i64 what,.int .i64 ww,.int .u64 wx])
 have P2:=P1.tmp c2
 have q2:=(q.keep C1 Tag.noConfusion Tag.noConfusion Tag.noConfusion Tag.noConfusion).keep c2 (fun q=>q) (fun q=>q) (fun q=>q) (fun q=>q)
 have kn:K1 h1.n=.no:=P1.kn
 have gt:((h1.push (.cells 0 false [.int .i64 0,.int .i64 0,.int .u64 0])).set h1.n (.cells 0 false [.int .i64 what,.int .i64 ww,.int .u64 wx])).get h1.n=.cells 0 false [.int .i64 what,.int .i64 ww,.int .u64 wx]:=AHeap.get_set_same _ _ _
 have lt:h1.n<((h1.push (.cells 0 false [.int .i64 0,.int .i64 0,.int .u64 0])).set h1.n (.cells 0 false [.int .i64 what,.int .i64 ww,.int .u64 wx])).n:=by simp
 have N2:=N1.trans (Nxt.tmp (γ:={ γ with K:=K1 }) c2)
 simp -implicitDefEqProofs (disch:=first|exact dz _|fail) only [↓qJ,qK,qL,qA,qB,qC,qD,qE,↓reduceIte,qG,qH,qI]
 generalize ((h1.push (.cells 0 false [.int .i64 0,.int .i64 0,.int .u64 0])).set h1.n (.cells 0 false [.int .i64 what,.int .i64 ww,.int .u64 wx]))=h2 at *
 generalize h1.n=t at *
 have a2:At h2 { γ with K:=K1 } R1 k j r f x i:=⟨by rw [eg];exact a.hr,a.hf,a.hx,a.hi⟩
 by_cases c1:what=3
 ·rw [if_pos c1] at hp
  simp only [Option.some.injEq,Prod.mk.injEq] at hp
  obtain ⟨rfl,rfl⟩:=hp
  have d1:decide (what=3)=true:=decide_eq_true c1
  simp -implicitDefEqProofs (disch:=first|exact dz _|fail) only [↓qJ,qK,qL,qA,qB,qC,qD,qE,↓reduceIte,qG,qH,qI,gt,d1]
  subst hQ
  exact ⟨rfl,_,P2,N2⟩
 ·rw [if_neg c1] at hp
  have d1:decide (what=3)=false:=decide_eq_false c1
  simp only [Option.bind_eq_some_iff,Option.map_eq_some_iff,Prod.mk.injEq] at hp
  obtain ⟨R3,hp3,R4,hp4,R5,hp5,rfl,rfl⟩:=hp
  obtain ⟨id1,g1,o1,vs1,x2,x3,x4,x5,P3,N3,x6⟩:=P2.put a2 q2 hp3
  have ne1:t≠id1:=fun e=>by rw [←e] at x6;exact Tag.noConfusion (kn.symm.trans x6)
  have hf3:∃ f3,R3.gs=R1.gs.set k (r.setF j f3)∧FrV (h2.set id1 (.cells g1 false (vs1.take o1++[.int .u64 wx]++vs1.drop (o1+1)))) K1 k j i f3 sv iv lv vv la:=by
   unfold Run.put Run.fr? at hp3
   rw [a2.hr] at hp3
   simp only [Option.bind_some,a2.hf,Option.map_eq_some_iff] at hp3
   obtain ⟨s3,hs3,rfl⟩:=hp3
   obtain ⟨rfl,w0,hw0⟩:=set?_some hs3
   obtain ⟨id',g',o',vs',e1,e2,e3,e4,e5,e6,e7⟩:=q2.put hw0
   have hh:=(x4 .i64).symm.trans (e4 .i64)
   simp only [Option.some.injEq,Prod.mk.injEq,AVal.ptr.injEq,and_true] at hh
   obtain ⟨rfl,rfl,rfl⟩:=hh
   rw [x2] at e2;cases e2
   exact ⟨_,by rw [Run.setF_eq a2.hr];rfl,(e7 wx).2⟩
  obtain ⟨f3,eg3,q3⟩:=hf3
  have a3:At (h2.set id1 (.cells g1 false (vs1.take o1++[.int .u64 wx]++vs1.drop (o1+1)))) { γ with K:=K1 } R3 k j (r.setF j f3) f3 x i :=
   ⟨by rw [eg3];exact List.getElem?_set_self (List.getElem?_eq_some_iff.1 a2.hr).1,List.getElem?_set_self (List.getElem?_eq_some_iff.1 a2.hf).1,a2.hx,a2.hi⟩
  simp -implicitDefEqProofs (disch:=first|exact dz _|fail) only [↓qJ,qK,qL,qA,qB,qC,qD,qE,↓reduceIte,qG,qH,qI,gt,d1,x2,x4,x5]
  have gt3:(h2.set id1 (.cells g1 false (vs1.take o1++[.int .u64 wx]++vs1.drop (o1+1)))).get t=_:=(AHeap.get_set_ne _ _ ne1).trans gt
  have lt3:t<(h2.set id1 (.cells g1 false (vs1.take o1++[.int .u64 wx]++vs1.drop (o1+1)))).n:=lt
  generalize h2.set id1 (.cells g1 false (vs1.take o1++[.int .u64 wx]++vs1.drop (o1+1)))=h3 at *
  by_cases c3:0≤zo
  ·rw [if_pos c3] at hp4
   have d3:decide (0≤zo)=true:=decide_eq_true c3
   obtain ⟨id2,g2,o2,vs2,y2,y3,y4,y5,P4,N4,y6⟩:=P3.put a3 q3 hp4
   have ne2:t≠id2:=fun e=>by rw [←e] at y6;exact Tag.noConfusion (kn.symm.trans y6)
   have e4:(!decide (what=4))=decide (what≠4):=by simp
   simp -implicitDefEqProofs (disch:=first|exact dz _|fail) only [↓qJ,qK,qL,qA,qB,qC,qD,qE,↓reduceIte,qG,qH,qI,gt3,d3,e4]
   refine callI_of (bit _ _) ?_
   rintro v h5 ⟨rfl,rfl⟩
   have gt4:(h5.set id2 (.cells g2 false (vs2.take o2++[.int .u64 (bitI (decide (what≠4)))]++vs2.drop (o2+1)))).get t=_:=(AHeap.get_set_ne _ _ ne2).trans gt3
   by_cases c4:what=2
   ·rw [if_pos c4] at hp5
    have d4:decide (what=2)=true:=decide_eq_true c4
    simp -implicitDefEqProofs (disch:=first|exact dz _|fail) only [↓qJ,qK,qL,qA,qB,qC,qD,qE,↓reduceIte,qG,qH,qI,gt3,d4,y2,y4,y5,gt4]
    refine callI_of (wake P4 hp5) ?_
    rintro v h6 ⟨γ',P5,N5⟩
    simp -implicitDefEqProofs (disch:=first|exact dz _|fail) only [↓qJ,qK,qL,qA,qB,qC,qD,qE,↓reduceIte,qG,qH,qI]
    subst hQ
    exact ⟨rfl,γ',P5,((N2.trans N3).trans N4).trans N5⟩
   ·rw [if_neg c4] at hp5
    cases hp5
    have d4:decide (what=2)=false:=decide_eq_false c4
    simp -implicitDefEqProofs (disch:=first|exact dz _|fail) only [↓qJ,qK,qL,qA,qB,qC,qD,qE,↓reduceIte,qG,qH,qI,gt3,d4,y2,y4,y5,gt4]
    subst hQ
    exact ⟨rfl,_,P4,(N2.trans N3).trans N4⟩
  ·rw [if_neg c3] at hp4
   cases hp4
   have d3:decide (0≤zo)=false:=decide_eq_false c3
   by_cases c4:what=2
   ·rw [if_pos c4] at hp5
    have d4:decide (what=2)=true:=decide_eq_true c4
    simp -implicitDefEqProofs (disch:=first|exact dz _|fail) only [↓qJ,qK,qL,qA,qB,qC,qD,qE,↓reduceIte,qG,qH,qI,gt3,d3,d4]
    refine callI_of (wake P3 hp5) ?_
    rintro v h6 ⟨γ',P5,N5⟩
    simp -implicitDefEqProofs (disch:=first|exact dz _|fail) only [↓qJ,qK,qL,qA,qB,qC,qD,qE,↓reduceIte,qG,qH,qI]
    subst hQ
    exact ⟨rfl,γ',P5,(N2.trans N3).trans N5⟩
   ·rw [if_neg c4] at hp5
    cases hp5
    have d4:decide (what=2)=false:=decide_eq_false c4
    simp -implicitDefEqProofs (disch:=first|exact dz _|fail) only [↓qJ,qK,qL,qA,qB,qC,qD,qE,↓reduceIte,qG,qH,qI,gt3,d3,d4]
    subst hQ
    exact ⟨rfl,_,P3,N2.trans N3⟩
end
end Go.Proofs.Ytnbnpjhlflcjeaa.Id
namespace Go.Proofs.Ytnbnpjhlflcjeaa.Id
open Go Go.AM Go.Proofs.Ytnbnpjhlflcjeaa.AmGF
open Nat renaming reduceAdd → qA,reduceLeDiff → qB,reduceEqDiff → qC,reduceLT → qE
open Int renaming reduceToNat → qD,reduceEq → qG,reduceLT → qH,reduceLE → qI
section
variable {h0 h h':AHeap} {K:Nat→Tag} {γ:GI} {R:Run}
theorem wakeAll_drop {R':Run} {l:List Int} {z:Nat} {w:Int} (hw:l[z]?=some w) (hp:wakeAll R (l.drop z)=some R'):∃ R1,R.wake w 0 true=some R1∧wakeAll R1 (l.drop (z+1))=some R':=by
 have hi:=List.getElem?_eq_some_iff.1 hw
 have e:l.drop z=w::l.drop (z+1):=by rw [List.drop_eq_getElem_cons hi.1,hi.2]
 rw [e] at hp
 simpa only [wakeAll,Option.bind_eq_some_iff] using hp
set_option maxHeartbeats 4000000 in
theorem iClose (P:RunP h γ R) {w:Int} {R':Run} (hp:R.close w=some R'):CallP AP 92 [.ptr γ.d 0 0,.int .u64 w] h fun v h'=>∃ γ',RunP h' γ' R'∧Nxt h h' γ γ':=by
 refine callP (rfl:Tr.get AP 92=some A92) ?_
 generalize hQ:(fun (r:AVal) (h':AHeap)=>_)=Q
 simp only [Run.close,Option.bind_eq_some_iff] at hp
 obtain ⟨s,hch,hp⟩:=hp
 simp -implicitDefEqProofs (disch:=first|exact dz _|fail) only [↓qJ,qK,qL,qA,qB,qC,qD,qE,↓reduceIte,qG,qH,qI]
 refine callI_of (channel P hch) ?_
 rintro v h1 ⟨hv,rfl⟩
 cases s with
 | none =>
  rcases hv with ⟨rfl,_⟩ | ⟨_,_,_,_,e,_⟩
  ·simp -implicitDefEqProofs (disch:=first|exact dz _|fail) only [↓qJ,qK,qL,qA,qB,qC,qD,qE,↓reduceIte,qG,qH,qI]
   refine callI_of (panic P hp) ?_
   rintro v h3 ⟨γ',P3,N3⟩
   simp -implicitDefEqProofs (disch:=first|exact dz _|fail) only [↓qJ,qK,qL,qA,qB,qC,qD,qE,↓reduceIte,qG,qH,qI]
   subst hQ
   exact ⟨γ',P3,N3⟩
  ·cases e
 | some s =>
  obtain ⟨y,ci,F,hy,ey,rfl,H,kF⟩:=hv.some
  simp only [Option.bind_eq_some_iff] at hp
  obtain ⟨s',hs',hp⟩:=hp
  obtain ⟨rfl,hsm⟩:=smallQ_some hs'
  simp -implicitDefEqProofs (disch:=first|exact dz _|fail) only [↓qJ,qK,qL,qA,qB,qC,qD,qE,↓reduceIte,qG,qH,qI]
  cases hcl:s'.cl with
  | true =>
   rw [if_pos hcl] at hp
   refine callI_of (closeTwice H hcl) ?_
   rintro r h2 ⟨rfl,rfl⟩
   simp -implicitDefEqProofs (disch:=first|exact dz _|fail) only [↓qJ,qK,qL,qA,qB,qC,qD,qE,↓reduceIte,qG,qH,qI]
   refine callI_of (panic P hp) ?_
   rintro v h3 ⟨γ',P3,N3⟩
   simp -implicitDefEqProofs (disch:=first|exact dz _|fail) only [↓qJ,qK,qL,qA,qB,qC,qD,qE,↓reduceIte,qG,qH,qI]
   subst hQ
   exact ⟨γ',P3,N3⟩
  | false =>
   rw [if_neg (by rw [hcl];simp)] at hp
   refine callI_of (close H hsm hcl) ?_
   rintro r h2 ⟨lv,Fl,rfl,L,hFl,F',f',H',hF'⟩
   obtain ⟨K2,P2,N2,C2,hK2⟩:=P.setChan hy hch ey H kF f' H'
   have kl:∀ j,j∈Fl→K2 j=.no:=fun j hj=>by
    have h1:=hFl j hj
    rw [hK2 j fun hm=>by have:=H.lt j (hF' j hm);omega]
    exact Decidable.byContradiction fun q=>by have:=P.k0 _ q;omega
   obtain ⟨sm1,sm2,sm3⟩:=hsm
   have hlen:(s'.gs.map (·.1)++s'.ss.map (·.1)).length<2147483648:=by rw [List.length_append,List.length_map,List.length_map];omega
   generalize s'.gs.map (·.1)++s'.ss.map (·.1)=ids at *
   simp -implicitDefEqProofs (disch:=first|exact dz _|fail) only [↓qJ,qK,qL,qA,qB,qC,qD,qE,↓reduceIte,qG,qH,qI,L.len]
   refine loopI_of (fun c e h5=>∃ (z:Nat) (γ5:GI) (R5:Run),c+z=ids.length∧e.val 0=.ptr γ.d 0 0∧e.val 25=lv∧e.val 26=.int .i64 (ids.length:Int)∧e.val 27=.int .i64 (z:Int)∧RunP h5 γ5 R5∧Nxt h1 h5 γ γ5∧SlOf h5 1 encI lv ids Fl∧(∀ j,j∈Fl→γ5.K j=.no)∧wakeAll R5 (ids.drop z)=some R') ids.length ?_ ?_
   ·refine ⟨0,_,_,by omega,?_,?_,?_,?_,P2,N2,L,kl,hp⟩<;>(simp -implicitDefEqProofs (disch:=first|exact dz _|fail) only [↓qJ,qK,qL,qA,qB,qC,qD,qE,↓reduceIte,qG,qH,qI])<;>rfl
   ·rintro c e h5 ⟨z,γ5,R5,hcz,y0,y25,y26,y27,P5,N5,L5,kl5,hp⟩
    simp -implicitDefEqProofs (disch:=first|exact dz _|fail) only [↓qJ,qK,qL,qA,qB,qC,qD,qE,↓reduceIte,qG,qH,qI,y26,y27]
    refine cI_bool (fun hc=>?_) (fun hc=>?_)
    ·simp only [decide_eq_true_eq] at hc
     obtain ⟨nn,hnn⟩:∃ nn,ids[z]?=some nn:=⟨_,List.getElem?_eq_getElem (by omega)⟩
     obtain ⟨R6,hw,hp⟩:=wakeAll_drop hnn hp
     obtain ⟨id1,g1,o1,vs1,ro1,u1,u2,u3,u4⟩:=L5.rd.ix1 hnn .i64
     have wz:IntKind.i64.wrap ((z:Int)+1)=((z+1:Nat):Int):=(wrap64 (by omega) (by omega)).trans (by omega)
     simp -implicitDefEqProofs (disch:=first|exact dz _|fail) only [↓qJ,qK,qL,qA,qB,qC,qD,qE,↓reduceIte,qG,qH,qI,y0,y25,y26,y27,u1,u2,u4]
     rw [←N5.d]
     refine callI_of (wake P5 hw) ?_
     rintro v h6 ⟨γ6,P6,N6⟩
     simp -implicitDefEqProofs (disch:=first|exact dz _|fail) only [↓qJ,qK,qL,qA,qB,qC,qD,qE,↓reduceIte,qG,qH,qI,y0,y25,y26,y27,wz]
     exact ⟨c-1,by omega,z+1,γ6,R6,by omega,by rw [N5.d],rfl,P6,N5.trans N6,L5.frame N6.c.n fun j hj=>N6.c.keep (L5.lt j hj) (kl5 j hj) (fun q=>q rfl),fun j hj=>(N6.c.k j (L5.lt j hj)).trans (kl5 j hj),hp⟩
    ·simp only [decide_eq_false_iff_not] at hc
     simp -implicitDefEqProofs (disch:=first|exact dz _|fail) only [↓qJ,qK,qL,qA,qB,qC,qD,qE,↓reduceIte,qG,qH,qI]
     rw [List.drop_of_length_le (by omega)] at hp
     simp only [wakeAll,Option.some.injEq] at hp
     subst hp
     subst hQ
     exact ⟨γ5,P5,N5⟩
theorem RunP.putF (P:RunP h γ R) {k j i:Nat} {r:Routine} {f:Frame} {x:Nat×List Nat} (a:At h γ R k j r f x i) {sv iv lv vv:AVal} {la:List (Int×AVal)} (q:FrV h γ.K k j i f sv iv lv vv la) {z w:Int} {R':Run} (hp:R.put k j z w=some R') :
  ∃ id g o vs f3,h.get id=.cells g false vs∧id<h.n∧(∀ k:IntKind,ixV h 1 sv (.int k z)=some (.ptr id g o,h))∧o+1≤vs.length∧γ.K id=.slots k j∧RunP (h.set id (.cells g false (vs.take o++[.int .u64 w]++vs.drop (o+1)))) γ R'∧Nxt h (h.set id (.cells g false (vs.take o++[.int .u64 w]++vs.drop (o+1)))) γ γ∧Chg (·=.slots k j) h (h.set id (.cells g false (vs.take o++[.int .u64 w]++vs.drop (o+1)))) γ.K γ.K ∧
   FrV (h.set id (.cells g false (vs.take o++[.int .u64 w]++vs.drop (o+1)))) γ.K k j i f3 sv iv lv vv la∧At (h.set id (.cells g false (vs.take o++[.int .u64 w]++vs.drop (o+1)))) γ R' k j (r.setF j f3) f3 x i∧(∀ w,R'.channel w=R.channel w)∧R'.g=R.g:=by
 unfold Run.put Run.fr? at hp
 rw [a.hr] at hp
 simp only [Option.bind_some,a.hf,Option.map_eq_some_iff] at hp
 obtain ⟨s,hs,rfl⟩:=hp
 obtain ⟨rfl,w0,hw0⟩:=set?_some hs
 obtain ⟨id,g,o,vs,e1,e2,e3,e4,e5,e6,e7⟩:=q.put hw0
 obtain ⟨c,q'⟩:=e7 w
 obtain ⟨P',N'⟩:=P.setFr c (fun t q=>.inr (.inl q)) (fun j hj=>Nat.lt_of_lt_of_le (P.k0 j hj) c.n) a ⟨_,_,_,_,_,q'⟩
 rw [Run.setF_eq a.hr]
 exact ⟨id,g,o,vs,_,e2,e3,e4,e6,e1,P',N',c,q',⟨List.getElem?_set_self (List.getElem?_eq_some_iff.1 a.hr).1,List.getElem?_set_self (List.getElem?_eq_some_iff.1 a.hf).1,a.hx,a.hi⟩,fun _=>rfl,rfl⟩
set_option maxHeartbeats 8000000 in
theorem iOne (P:RunP h γ R) {k j i:Nat} {r:Routine} {f:Frame} {x:Nat×List Nat} (a:At h γ R k j r f x i) {sv iv lv vv:AVal} {la:List (Int×AVal)} (q:FrV h γ.K k j i f sv iv lv vv la) {z:PIns} {zv:AVal} (hz:Ro h γ.K fun h=>SlRd h 1 encK zv z.list) {n:Int} {wait:Bool} {R':Run} (hp:R.one k j z n wait=some R') :
  CallP AP 108 [.ptr γ.d 0 0,sv,.agg (rowI z zv),.int .i64 n,.bool wait] h fun v h'=>∃ γ',RunP h' γ' R'∧Nxt h h' γ γ'∧(wait=true→∃ K',γ'={ γ with K:=K' }∧Chg TC h h' γ.K K'∧R'.gs=R.gs∧R'.p=R.p):=by
 refine callP (rfl:Tr.get AP 108=some A108) ?_
 generalize hQ:(fun (r:AVal) (h':AHeap)=>_)=Q
 have c1:=(Chg.refl (fun _=>False) h γ.K).push (.cells 0 false (rowI z zv))
 have N1:=Nxt.tmp c1
 have P1:=P.tmp c1
 have q1:=q.keep c1 (fun q=>q) (fun q=>q) (fun q=>q) (fun q=>q)
 have z1:=hz.keep c1 (fun q=>q)
 have ho:=P1.obj
 have hlt:=P1.ltd
 have kn:=P.kn
 have gt:(h.push (.cells 0 false (rowI z zv))).get h.n=.cells 0 false (rowI z zv):=AHeap.get_push_same _ _
 have lt:h.n<(h.push (.cells 0 false (rowI z zv))).n:=by simp
 have zc:=hz.now.cells
 have sb:=q.slots.beq
 have zb:=hz.now.beq
 simp -implicitDefEqProofs (disch:=first|exact dz _|fail) only [↓qJ,qK,qL,qA,qB,qC,qD,qE,↓reduceIte,qG,qH,qI,rowI,zc.2]
 generalize (h.push (.cells 0 false (rowI z zv)))=h1 at *
 have a1:At h1 γ R k j r f x i:=⟨a.hr,a.hf,a.hx,a.hi⟩
 unfold Run.one Run.fr? at hp
 rw [a.hr] at hp
 simp only [Option.bind_some,a.hf,Option.bind_eq_some_iff] at hp
 obtain ⟨_,hlim,dir,hdir,c,hcc,slot,hsl,w,hw,hp⟩:=hp
 have hlim:=lim_lt hlim
 obtain ⟨hn0,_,hn1⟩:=at?_nat hdir
 have w1:IntKind.i64.wrap (n+1)=n+1:=wrap64 (by omega) (by omega)
 have w2:IntKind.i64.wrap (n+2)=n+2:=wrap64 (by omega) (by omega)
 obtain ⟨ida,ga,oa,vsa,roa,u1,u2,u3,u4⟩:=SlRd.ixI (enc:=fun n=>.int .i64 n) z1.now hdir
 obtain ⟨idb,gb,ob,vsb,rob,b1,b2,b3,b4⟩:=SlRd.ixI (enc:=fun n=>.int .i64 n) z1.now hcc
 obtain ⟨idc,gc,oc,vsc,roc,s1,s2,s3,s4⟩:=SlRd.ixI (enc:=fun n=>.int .i64 n) z1.now hsl
 obtain ⟨idd,gd,od,vsd,d1,d2,d3,d4⟩:=q1.slots.ix (enc:=fun n=>.int .u64 n) hw
 have wq:IntKind.i64.wrap (n.tdiv 3)=i64 (n.tdiv 3):=rfl
 cases wait with
 | true =>
  simp only [if_true,Option.bind_eq_some_iff,Option.map_eq_some_iff] at hp
  obtain ⟨vq,hvq,s0,hch,s,rfl,s',hs',rfl⟩:=hp
  obtain ⟨rfl,hsm⟩:=smallQ_some hs'
  obtain ⟨ide,ge,oe,vse,e1,e2,e3,e4⟩:=q1.slots.ix (enc:=fun n=>.int .u64 n) hvq
  simp -implicitDefEqProofs (disch:=first|exact dz _|fail) only [↓qJ,qK,qL,qA,qB,qC,qD,qE,↓reduceIte,qG,qH,qI,gt,w1,b1,b2,b4,d1,d2,d4]
  refine trCall_of (channel P1 hch) ?_
  rintro v h2 ⟨hv,rfl⟩
  obtain ⟨y,ci,F,hy,ey,rfl,H,kF⟩:=hv.some
  simp -implicitDefEqProofs (disch:=first|exact dz _|fail) only [↓qJ,qK,qL,qA,qB,qC,qD,qE,↓reduceIte,qG,qH,qI,gt,ho,w2,s1,s2,s4,wq]
  refine trCall_of (name _ _ _) ?_
  rintro v h3 ⟨rfl,rfl⟩
  simp -implicitDefEqProofs (disch:=first|exact dz _|fail) only [↓qJ,qK,qL,qA,qB,qC,qD,qE,↓reduceIte,qG,qH,qI,gt,ho,w1,w2,u1,u2,u4,b1,b2,b4,s1,s2,s4,d1,d2,d4,e1,e2,e4,wq,zb]
  refine callI_of (queue H _ _ _ ⟨hsm.2.1,hsm.2.2⟩) ?_
  rintro r4 h4 ⟨F4,f4,H4⟩
  have H4':ChanAt h4 ci (if dir=0 then { s' with ss:=s'.ss++[(nameI R.g (i64 (n.tdiv 3)),vq)] } else { s' with gs:=s'.gs++[(nameI R.g (i64 (n.tdiv 3)),0)] }) F4:=by
   by_cases c:dir=0
   ·simpa [c] using H4
   ·simpa [c] using H4
  obtain ⟨K4,P4,N4,C4,_⟩:=P1.setChan hy hch ey H kF f4 H4'
  simp -implicitDefEqProofs (disch:=first|exact dz _|fail) only [↓qJ,qK,qL,qA,qB,qC,qD,qE,↓reduceIte,qG,qH,qI]
  subst hQ
  exact ⟨_,P4,N1.trans N4,fun _=>⟨K4,rfl,(c1.wide fun _ q=>q.elim).trans (C4.wide fun t q=>⟨_,q⟩),(setCh_gs _ _).1,(setCh_gs _ _).2.1⟩⟩
 | false =>
  simp only [Bool.false_eq_true,if_false,Option.bind_eq_some_iff] at hp
  obtain ⟨R3,hp3,hp⟩:=hp
  obtain ⟨id3,g3,o3,vs3,f3,t1,t2,t3,t4,t5,P3,N3,C3,q3,a3,hc3,hg3⟩:=P1.putF a1 q1 hp3
  have ne3:h.n≠id3:=fun e=>by rw [←e] at t5;rw [kn] at t5;cases t5
  unfold u64 at P3 N3 C3 q3 a3
  rw [←wq] at P3 N3 C3 q3 a3
  by_cases c:dir=0
  ·rw [if_pos c] at hp
   have dd:decide (dir=0)=true:=decide_eq_true c
   simp only [Option.bind_eq_some_iff,Option.map_eq_some_iff] at hp
   obtain ⟨vq,hvq,⟨b,R4⟩,hp,rfl⟩:=hp
   have hch:∃ s,R.channel w=some (some s):=by
    have hp':=hp
    unfold Run.send at hp'
    simp only [Option.bind_eq_some_iff] at hp'
    obtain ⟨s0,h1,s,rfl,_⟩:=hp'
    exact ⟨s,by rw [←hc3];exact h1⟩
   obtain ⟨s,hch⟩:=hch
   obtain ⟨ide,ge,oe,vse,e1,e2,e3,e4⟩:=q3.slots.ix (enc:=fun n=>.int .u64 n) (sl_some hvq a3.hr a3.hf)
   simp -implicitDefEqProofs (disch:=first|exact dz _|fail) only [↓qJ,qK,qL,qA,qB,qC,qD,qE,↓reduceIte,qG,qH,qI,gt,w1,b1,b2,b4,d1,d2,d4]
   refine trCall_of (channel P1 hch) ?_
   rintro v h2 ⟨hv,rfl⟩
   have hv3:=hv.keep C3 (fun _=>Tag.noConfusion)
   simp -implicitDefEqProofs (disch:=first|exact dz _|fail) only [↓qJ,qK,qL,qA,qB,qC,qD,qE,↓reduceIte,qG,qH,qI,gt,ho,w2,s1,s2,s4]
   refine trCall_of (name _ _ _) ?_
   rintro v2 h3 ⟨rfl,rfl⟩
   simp -implicitDefEqProofs (disch:=first|exact dz _|fail) only [↓qJ,qK,qL,qA,qB,qC,qD,qE,↓reduceIte,qG,qH,qI,gt,ho,w1,w2,u1,u2,u4,b1,b2,b4,s1,s2,s4,d1,d2,d4,dd,t1,t3,t4,ne3,e1,e2,e4,zb]
   refine callI_of (iSend P3 hv3 (by rw [hc3];exact hch) hp) ?_
   rintro r4 h4 ⟨_,γ',P4,N4⟩
   simp -implicitDefEqProofs (disch:=first|exact dz _|fail) only [↓qJ,qK,qL,qA,qB,qC,qD,qE,↓reduceIte,qG,qH,qI]
   subst hQ
   exact ⟨γ',P4,(N1.trans N3).trans N4,fun q=>by cases q⟩
  ·rw [if_neg c] at hp
   have dd:decide (dir=0)=false:=decide_eq_false c
   simp only [Option.map_eq_some_iff] at hp
   obtain ⟨⟨b,R4⟩,hp,rfl⟩:=hp
   have hch:∃ s,R.channel w=some (some s):=by
    have hp':=hp
    unfold Run.receive at hp'
    simp only [Option.bind_eq_some_iff] at hp'
    obtain ⟨s0,h1,s,rfl,_⟩:=hp'
    exact ⟨s,by rw [←hc3];exact h1⟩
   obtain ⟨s,hch⟩:=hch
   simp -implicitDefEqProofs (disch:=first|exact dz _|fail) only [↓qJ,qK,qL,qA,qB,qC,qD,qE,↓reduceIte,qG,qH,qI,gt,w1,b1,b2,b4,d1,d2,d4]
   refine trCall_of (channel P1 hch) ?_
   rintro v h2 ⟨hv,rfl⟩
   have hv3:=hv.keep C3 (fun _=>Tag.noConfusion)
   simp -implicitDefEqProofs (disch:=first|exact dz _|fail) only [↓qJ,qK,qL,qA,qB,qC,qD,qE,↓reduceIte,qG,qH,qI,gt,ho,w2,s1,s2,s4]
   refine trCall_of (name _ _ _) ?_
   rintro v2 h3 ⟨rfl,rfl⟩
   simp -implicitDefEqProofs (disch:=first|exact dz _|fail) only [↓qJ,qK,qL,qA,qB,qC,qD,qE,↓reduceIte,qG,qH,qI,gt,ho,w1,w2,u1,u2,u4,b1,b2,b4,s1,s2,s4,d1,d2,d4,dd,t1,t3,t4,ne3,zb]
   refine callI_of (iRecv P3 a3 q3 hv3 (by rw [hc3];exact hch) hp) ?_
   rintro r4 h4 ⟨_,γ',P4,N4⟩
   simp -implicitDefEqProofs (disch:=first|exact dz _|fail) only [↓qJ,qK,qL,qA,qB,qC,qD,qE,↓reduceIte,qG,qH,qI]
   subst hQ
   exact ⟨γ',P4,(N1.trans N3).trans N4,fun q=>by cases q⟩
end
end Go.Proofs.Ytnbnpjhlflcjeaa.Id
namespace Go.Proofs.Ytnbnpjhlflcjeaa.Id
open Go Go.AM Go.Proofs.Ytnbnpjhlflcjeaa.AmGF
open Nat renaming reduceAdd → qA,reduceLeDiff → qB,reduceEqDiff → qC,reduceLT → qE
open Int renaming reduceToNat → qD,reduceEq → qG,reduceLT → qH,reduceLE → qI
section
variable {h0 h h':AHeap} {K:Nat→Tag} {γ:GI} {R:Run}
theorem readies_drop {sl l t:List Int} {m:Nat} (hn:m<l.length) (hp:readies R sl m (l.drop m)=some t) :
  ∃ dir c w s t',l[m]?=some dir∧l[m+1]?=some c∧at? sl c=some w∧R.channel w=some s∧readies R sl (m+3) (l.drop (m+3))=some t'∧t=(match s with | none=>t' | some s=>if s.ready (decide (dir=0)) then (m:Int)::t' else t'):=by
 cases hd:l.drop m with
 | nil=>have:=congrArg List.length hd;rw [List.length_drop] at this;simp at this;omega
 | cons a t =>
  cases t with
  | nil=>rw [hd] at hp;simp [readies] at hp
  | cons c t =>
   cases t with
   | nil=>rw [hd] at hp;simp [readies] at hp
   | cons b rest =>
    obtain ⟨e1,e2,_,e4⟩:=drop3 hd
    rw [hd] at hp
    simp only [readies,Option.bind_eq_some_iff,Option.map_eq_some_iff] at hp
    obtain ⟨w,hw,s,hs,t',ht',rfl⟩:=hp
    exact ⟨a,c,w,s,t',e1,e2,hw,hs,by rw [e4];exact ht',by cases s<;>rfl⟩
theorem waitAll_drop {k j:Nat} {sl l:List Int} {z:PIns} {m:Nat} {R':Run} (hn:m<l.length) (hp:waitAll R k j sl z m (l.drop m)=some R') :
  ∃ c w s,l[m+1]?=some c∧at? sl c=some w∧R.channel w=some s∧((s=none∧waitAll R k j sl z (m+3) (l.drop (m+3))=some R')∨∃ s' R1,s=some s'∧R.one k j z (m:Int) true=some R1∧waitAll R1 k j sl z (m+3) (l.drop (m+3))=some R'):=by
 cases hd:l.drop m with
 | nil=>have:=congrArg List.length hd;rw [List.length_drop] at this;simp at this;omega
 | cons a t =>
  cases t with
  | nil=>rw [hd] at hp;simp [waitAll] at hp
  | cons c t =>
   cases t with
   | nil=>rw [hd] at hp;simp [waitAll] at hp
   | cons b rest =>
    obtain ⟨e1,e2,_,e4⟩:=drop3 hd
    rw [hd] at hp
    simp only [waitAll,Option.bind_eq_some_iff] at hp
    obtain ⟨w,hw,s,hs,hp⟩:=hp
    refine ⟨c,w,s,e2,hw,hs,?_⟩
    cases s with
    | none=>exact .inl ⟨rfl,by rw [e4];exact hp⟩
    | some s' =>
     simp only [Option.bind_eq_some_iff] at hp
     obtain ⟨R1,h1,h2⟩:=hp
     exact .inr ⟨s',R1,rfl,h1,by rw [e4];exact h2⟩
set_option maxHeartbeats 16000000 in
theorem iChoose (P:RunP h γ R) {k j i:Nat} {r:Routine} {f:Frame} {x:Nat×List Nat} (a:At h γ R k j r f x i) {sv iv lv vv fv:AVal} {la:List (Int×AVal)} (s:RtV h γ.K k x.1 x.2 r fv) (q:FrV h γ.K k j i f sv iv lv vv la) {z:PIns} {zv:AVal} (hz:Ro h γ.K fun h=>SlRd h 1 encK zv z.list) {choice:Int} {R':Run} (hp:R.choose k j z choice=some R') :
  CallP AP 97 [.ptr γ.d 0 0,.ptr x.1 0 0,sv,.agg (rowI z zv),.int .u64 choice] h fun v h'=>∃ γ',RunP h' γ' R'∧Nxt h h' γ γ':=by
 refine callP (rfl:Tr.get AP 97=some A97) ?_
 generalize hQ:(fun (r:AVal) (h':AHeap)=>_)=Q
 have c1:=(Chg.refl (fun _=>False) h γ.K).push (.cells 0 false (rowI z zv))
 have N1:=Nxt.tmp c1
 have P1:=P.tmp c1
 have q1:=q.keep c1 (fun q=>q) (fun q=>q) (fun q=>q) (fun q=>q)
 have r1:=s.keep c1 (fun q=>q) (fun q=>q) (fun q=>q) (fun k=>⟨fun q=>q,fun q=>q,fun q=>q⟩)
 have z1:=hz.keep c1 (fun q=>q)
 have kn:=P.kn
 have gt:(h.push (.cells 0 false (rowI z zv))).get h.n=.cells 0 false (rowI z zv):=AHeap.get_push_same _ _
 have lt:h.n<(h.push (.cells 0 false (rowI z zv))).n:=by simp
 have zc:=hz.now.cells
 simp -implicitDefEqProofs (disch:=first|exact dz _|fail) only [↓qJ,qK,qL,qA,qB,qC,qD,qE,↓reduceIte,qG,qH,qI,rowI,zc.2]
 generalize (h.push (.cells 0 false (rowI z zv)))=h1 at *
 generalize h.n=t at *
 have a1:At h1 γ R k j r f x i:=⟨a.hr,a.hf,a.hx,a.hi⟩
 unfold Run.choose at hp
 rw [a.hr] at hp
 simp only [Option.bind_some,a.hf,Option.bind_eq_some_iff] at hp
 obtain ⟨_,hlim,rdy,hrd,hp⟩:=hp
 have hlim:=lim_lt hlim
 have fin:∀ h5:AHeap,Chg (fun _=>False) h1 h5 γ.K γ.K→h5.get t=.cells 0 false (rowI z zv)∧t<h5.n∧RunP h5 γ R∧FrV h5 γ.K k j i f sv iv lv vv la∧RtV h5 γ.K k x.1 x.2 r fv∧(Ro h5 γ.K fun h=>SlRd h 1 encK zv z.list):=fun h5 C=>⟨(C.keep lt kn (fun q=>q)).trans gt,Nat.lt_of_lt_of_le lt C.n,P1.tmp C,q1.keep C (fun q=>q) (fun q=>q) (fun q=>q) (fun q=>q),r1.keep C (fun q=>q) (fun q=>q) (fun q=>q) (fun k=>⟨fun q=>q,fun q=>q,fun q=>q⟩),z1.keep C (fun q=>q)⟩
 simp only [rowI] at gt fin
 refine loopI_of (fun c e h5=>∃ (m:Nat) (v:AVal) (acc rest:List Int) (F:List Nat),c=z.list.length+3-m∧m≤z.list.length+2∧e.val 0=.ptr γ.d 0 0∧e.val 1=.ptr x.1 0 0∧e.val 2=sv∧e.val 4=.int .u64 choice∧e.val 8=.ptr t 0 0∧e.val 10=v∧e.val 11=.int .i64 (m:Int)∧HFrame h1 h5 [] F∧SlX h5 1 encK v acc F∧readies R f.slots m (z.list.drop m)=some rest∧rdy=acc++rest∧acc.length≤m) (z.list.length+3) ?_ ?_
 ·refine ⟨0,.nils,[],rdy,[],by omega,by omega,?_,?_,?_,?_,?_,?_,?_,HFrame.refl (by simp),SlX.nil,hrd,rfl,by simp⟩<;>(simp -implicitDefEqProofs (disch:=first|exact dz _|fail) only [↓qJ,qK,qL,qA,qB,qC,qD,qE,↓reduceIte,qG,qH,qI])<;>rfl
 ·rintro c e h5 ⟨m,v,acc,rest,F,hcm,hm2,y0,y1,y2,y4,y8,y10,y11,f5,X5,hR,hre,hal⟩
  obtain ⟨gt5,lt5,P5,q5,r5,z5⟩:=fin h5 (Chg.n0 f5)
  have zl:=z5.now.len
  have a5:At h5 γ R k j r f x i:=⟨a.hr,a.hf,a.hx,a.hi⟩
  simp -implicitDefEqProofs (disch:=first|exact dz _|fail) only [↓qJ,qK,qL,qA,qB,qC,qD,qE,↓reduceIte,qG,qH,qI,y0,y1,y2,y4,y8,y10,y11,gt5,zl]
  refine cI_bool (fun hc=>?_) (fun hc=>?_)
  ·simp only [decide_eq_true_eq] at hc
   obtain ⟨dir,cc,w,sc,t',hdir,hcc,hw,hch,hR',e'⟩:=readies_drop (by omega) hR
   have w1:IntKind.i64.wrap ((m:Int)+1)=((m+1:Nat):Int):=(wrap64 (by omega) (by omega)).trans (by omega)
   have w3:IntKind.i64.wrap ((m:Int)+3)=((m+3:Nat):Int):=(wrap64 (by omega) (by omega)).trans (by omega)
   obtain ⟨id1,g1,o1,vs1,ro1,u1,u2,u3,u4⟩:=SlRd.ixI (enc:=fun n=>.int .i64 n) z5.now (at?_of hcc)
   obtain ⟨id2,g2,o2,vs2,v1,v2,v3,v4⟩:=q5.slots.ix (enc:=fun n=>.int .u64 n) hw
   obtain ⟨id3,g3,o3,vs3,ro3,t1,t2,t3,t4⟩:=SlRd.ixI (enc:=fun n=>.int .i64 n) z5.now (at?_of hdir)
   simp -implicitDefEqProofs (disch:=first|exact dz _|fail) only [↓qJ,qK,qL,qA,qB,qC,qD,qE,↓reduceIte,qG,qH,qI,y0,y1,y2,y4,y8,y10,y11,gt5,w1,u1,u2,u4,v1,v2,v4]
   refine callI_of (channel P5 hch) ?_
   rintro v' h6 ⟨hv,rfl⟩
   have hml:m+3≤z.list.length+2:=by omega
   cases sc with
   | none =>
    rcases hv with ⟨rfl,_⟩ | ⟨_,_,_,_,e,_⟩
    ·simp only at e'
     subst e'
     simp -implicitDefEqProofs (disch:=first|exact dz _|fail) only [↓qJ,qK,qL,qA,qB,qC,qD,qE,↓reduceIte,qG,qH,qI,y0,y1,y2,y4,y8,y10,y11,gt5,w3]
     exact ⟨_,by omega,m+3,v,acc,_,F,rfl,by omega,rfl,rfl,f5,X5,hR',hre,by omega⟩
    ·cases e
   | some sc =>
    obtain ⟨y,ci,Fc,hy,ey,rfl,H,kF⟩:=hv.some
    simp -implicitDefEqProofs (disch:=first|exact dz _|fail) only [↓qJ,qK,qL,qA,qB,qC,qD,qE,↓reduceIte,qG,qH,qI,y0,y1,y2,y4,y8,y10,y11,gt5,t1,t2,t4]
    refine callI_of (ready H (decide (dir=0))) ?_
    rintro v' h7 ⟨rfl,rfl⟩
    cases hrd2:sc.ready (decide (dir=0)) with
    | true =>
     simp only [hrd2,if_true] at e'
     subst e'
     simp -implicitDefEqProofs (disch:=first|exact dz _|fail) only [↓qJ,qK,qL,qA,qB,qC,qD,qE,↓reduceIte,qG,qH,qI,y0,y1,y2,y4,y8,y10,y11,gt5,w3]
     refine opI_of (X5.app1 (fun _=>rfl) (m:Int) rfl (by omega) fun v' h8 F' s8 f8=>?_)
     simp -implicitDefEqProofs (disch:=first|exact dz _|fail) only [↓qJ,qK,qL,qA,qB,qC,qD,qE,↓reduceIte,qG,qH,qI,y0,y1,y2,y4,y8,y10,y11,w3]
     exact ⟨_,by omega,m+3,v',acc++[(m:Int)],t',F',rfl,by omega,rfl,rfl,⟨Nat.le_trans f5.n f8.n,f8.g.trans f5.g,fun j hj _=>(f8.get j (Nat.lt_of_lt_of_le hj f5.n) fun hm=>by
      rcases f5.new j hm with q | q
      ·simp at q
      ·omega).trans (f5.get j hj (by simp)),fun j hj=>.inr (by
      rcases f8.new j hj with q | q
      ·rcases f5.new j q with q | q
       ·simp at q
       ·exact q
      ·exact Nat.le_trans f5.n q),f8.lt⟩,s8,hR',by rw [hre];simp,by simp;omega⟩
    | false =>
     simp only [hrd2,Bool.false_eq_true,if_false] at e'
     subst e'
     simp -implicitDefEqProofs (disch:=first|exact dz _|fail) only [↓qJ,qK,qL,qA,qB,qC,qD,qE,↓reduceIte,qG,qH,qI,y0,y1,y2,y4,y8,y10,y11,gt5,w3]
     exact ⟨_,by omega,m+3,v,acc,_,F,rfl,by omega,rfl,rfl,f5,X5,hR',hre,by omega⟩
  ·simp only [decide_eq_false_iff_not] at hc
   rw [List.drop_of_length_le (by omega)] at hR
   simp only [readies,Option.some.injEq] at hR
   subst hR
   rw [List.append_nil] at hre
   subst hre
   have xl:=X5.len
   have hlen:rdy.length≤1000002:=by omega
   by_cases c2:rdy.length=0
   ·have d2:decide ((rdy.length:Int)=0)=true:=decide_eq_true (by omega)
    by_cases c3:z.b=1
    ·have d3:decide (z.b=1)=true:=decide_eq_true c3
     rw [if_pos ⟨c2,c3⟩] at hp
     obtain ⟨id2,g2,o2,vs2,y1',y2',y3',y4',P2,N2,_⟩:=P5.put a5 q5 hp
     simp -implicitDefEqProofs (disch:=first|exact dz _|fail) only [↓qJ,qK,qL,qA,qB,qC,qD,qE,↓reduceIte,qG,qH,qI,y0,y1,y2,y4,y8,y10,y11,xl,d2,d3,gt5,y1',y3',y4']
     subst hQ
     exact ⟨γ,P2,(N1.trans (Nxt.tmp (Chg.n0 f5))).trans N2⟩
    ·have d3:decide (z.b=1)=false:=decide_eq_false c3
     rw [if_neg (fun q=>c3 q.2),if_neg (by omega)] at hp
     have d4:decide ((0:Int)<(rdy.length:Int))=false:=decide_eq_false (by omega)
     have hro:=r5.obj
     have hrlt:=r5.lt
     have kd5:γ.K t=.no:=kn
     have C6:=(Chg.refl (·=.rt k) h5 γ.K).set (i:=x.1) (fun _=>r5.kid) (.cells 0 false [.int .i64 2,.int .u64 r.till,.bool r.sleeps,fv,.int .u64 r.serial,.bool r.panics,.int .i64 r.number,.bool r.hit])
     obtain ⟨P6,N6⟩:=P5.setRow0 (r':={ r with state:=2 }) C6 a.hr a.hx r5 rfl (AHeap.get_set_same _ _ _)
     have q6:=q5.keep C6 Tag.noConfusion Tag.noConfusion Tag.noConfusion Tag.noConfusion
     have z6:=z5.keep C6 Tag.noConfusion
     have ne6:t≠x.1:=fun e=>by rw [e] at kd5;rw [r5.kid] at kd5;cases kd5
     have gt6:=(C6.keep lt5 kd5 Tag.noConfusion).trans gt5
     have lt6:=Nat.lt_of_lt_of_le lt5 C6.n
     have N6':=(N1.trans (Nxt.tmp (Chg.n0 f5))).trans N6
     have hx6:(R.setR k { r with state:=2 }).gs[k]?=some { r with state:=2 }:=List.getElem?_set_self (List.getElem?_eq_some_iff.1 a.hr).1
     simp -implicitDefEqProofs (disch:=first|exact dz _|fail) only [↓qJ,qK,qL,qA,qB,qC,qD,qE,↓reduceIte,qG,qH,qI,y0,y1,y2,y4,y8,y10,y11,xl,d2,d3,d4,gt5,hro]
     generalize h5.set x.1 (.cells 0 false [.int .i64 2,.int .u64 r.till,.bool r.sleeps,fv,.int .u64 r.serial,.bool r.panics,.int .i64 r.number,.bool r.hit])=h6 at *
     refine loopI_of (fun c e h7=>∃ (m:Nat) (Km:Nat→Tag) (Rm:Run),c=z.list.length+3-m∧m≤z.list.length+2∧e.val 0=.ptr γ.d 0 0∧e.val 2=sv∧e.val 8=.ptr t 0 0∧e.val 14=.int .i64 (m:Int)∧Chg TC h6 h7 γ.K Km∧RunP h7 { γ with K:=Km } Rm∧Rm.gs=(R.setR k { r with state:=2 }).gs∧waitAll Rm k j f.slots z m (z.list.drop m)=some R'∧Nxt h h7 γ { γ with K:=Km }) (z.list.length+3) ?_ ?_
     ·refine ⟨0,γ.K,_,by omega,by omega,?_,?_,?_,?_,Chg.refl _ _ _,P6,rfl,hp,N6'⟩<;>(simp -implicitDefEqProofs (disch:=first|exact dz _|fail) only [↓qJ,qK,qL,qA,qB,qC,qD,qE,↓reduceIte,qG,qH,qI,y0,y1,y2,y4,y8,y10,y11])<;>rfl
     ·rintro c e h7 ⟨m,Km,Rm,hcm,hm2,y0,y2,y8,y14,C7,P7,hgs,hW,N7⟩
      have n1:∀ {t:Tag},(∀ n,t≠.chan n)→¬ TC t:=TC.no
      have gt7:=(C7.keep lt6 kn (n1 fun _=>Tag.noConfusion)).trans gt6
      have lt7:=Nat.lt_of_lt_of_le lt6 C7.n
      have q7:=q6.keep C7 (n1 fun _=>Tag.noConfusion) (n1 fun _=>Tag.noConfusion) (n1 fun _=>Tag.noConfusion) (n1 fun _=>Tag.noConfusion)
      have z7:=z6.keep C7 (n1 fun _=>Tag.noConfusion)
      have zl:=z7.now.len
      have a7:At h7 { γ with K:=Km } Rm k j { r with state:=2 } f x i:=⟨by rw [hgs];exact hx6,a.hf,a.hx,a.hi⟩
      simp -implicitDefEqProofs (disch:=first|exact dz _|fail) only [↓qJ,qK,qL,qA,qB,qC,qD,qE,↓reduceIte,qG,qH,qI,y0,y2,y8,y14,gt7,zl]
      refine cI_bool (fun hc=>?_) (fun hc=>?_)
      ·simp only [decide_eq_true_eq] at hc
       obtain ⟨cc,w,sc,hcc,hw,hch,hW⟩:=waitAll_drop (by omega) hW
       have w1:IntKind.i64.wrap ((m:Int)+1)=((m+1:Nat):Int):=(wrap64 (by omega) (by omega)).trans (by omega)
       have w3:IntKind.i64.wrap ((m:Int)+3)=((m+3:Nat):Int):=(wrap64 (by omega) (by omega)).trans (by omega)
       obtain ⟨id1,g1,o1,vs1,ro1,u1,u2,u3,u4⟩:=SlRd.ixI (enc:=fun n=>.int .i64 n) z7.now (at?_of hcc)
       obtain ⟨id2,g2,o2,vs2,v1,v2,v3,v4⟩:=q7.slots.ix (enc:=fun n=>.int .u64 n) hw
       simp -implicitDefEqProofs (disch:=first|exact dz _|fail) only [↓qJ,qK,qL,qA,qB,qC,qD,qE,↓reduceIte,qG,qH,qI,y0,y2,y8,y14,gt7,w1,u1,u2,u4,v1,v2,v4]
       refine callI_of (channel P7 hch) ?_
       rintro v' h8 ⟨hv,rfl⟩
       rcases hW with ⟨rfl,hW⟩ | ⟨s',R8,rfl,hone,hW⟩
       ·rcases hv with ⟨rfl,_⟩ | ⟨_,_,_,_,e,_⟩
        ·simp -implicitDefEqProofs (disch:=first|exact dz _|fail) only [↓qJ,qK,qL,qA,qB,qC,qD,qE,↓reduceIte,qG,qH,qI,y0,y2,y8,y14,gt7,w3]
         exact ⟨_,by omega,m+3,Km,Rm,rfl,by omega,rfl,C7,P7,hgs,hW,N7⟩
        ·cases e
       ·obtain ⟨y,ci,Fc,hy,ey,rfl,H,kF⟩:=hv.some
        simp -implicitDefEqProofs (disch:=first|exact dz _|fail) only [↓qJ,qK,qL,qA,qB,qC,qD,qE,↓reduceIte,qG,qH,qI,y0,y2,y8,y14,gt7]
        refine callI_of (iOne P7 a7 q7 z7 hone) ?_
        rintro v9 h9 ⟨γ9,P9,N9,hex⟩
        obtain ⟨K9,rfl,C9,hg9,_⟩:=hex rfl
        simp -implicitDefEqProofs (disch:=first|exact dz _|fail) only [↓qJ,qK,qL,qA,qB,qC,qD,qE,↓reduceIte,qG,qH,qI,y0,y2,y8,y14,w3]
        exact ⟨_,by omega,m+3,K9,R8,rfl,by omega,rfl,C7.trans C9,P9,by rw [hg9];exact hgs,hW,N7.trans N9⟩
      ·simp only [decide_eq_false_iff_not] at hc
       simp -implicitDefEqProofs (disch:=first|exact dz _|fail) only [↓qJ,qK,qL,qA,qB,qC,qD,qE,↓reduceIte,qG,qH,qI]
       rw [List.drop_of_length_le (by omega)] at hW
       simp only [waitAll,Option.some.injEq] at hW
       subst hW
       subst hQ
       exact ⟨_,P7,N7⟩
   ·have d2:decide ((rdy.length:Int)=0)=false:=decide_eq_false (by omega)
    have d4:decide ((0:Int)<(rdy.length:Int))=true:=decide_eq_true (by omega)
    rw [if_neg (fun q=>c2 q.1),if_pos (by omega)] at hp
    simp only [Option.bind_eq_some_iff] at hp
    obtain ⟨n,hn,hp⟩:=hp
    have wl:IntKind.u64.wrap (rdy.length:Int)=(rdy.length:Int):=wrapU64 (by omega) (by omega)
    have br:=fun h=>AM.bin_rem h .u64 choice (rdy.length:Int) (by omega)
    obtain ⟨id1,g1,o1,vs1,ro1,u1,u2,u3,u4⟩:=SlRd.ixI (enc:=fun n=>.int .i64 n) X5.rd hn
    simp -implicitDefEqProofs (disch:=first|exact dz _|fail) only [↓qJ,qK,qL,qA,qB,qC,qD,qE,↓reduceIte,qG,qH,qI,y0,y1,y2,y4,y8,y10,y11,xl,d2,d4,wl,br]
    have:∀ k:IntKind,ixV h5 1 v (.int k (choice.tmod (rdy.length:Int)))=some (.ptr id1 g1 o1,h5):=fun k=>by
     obtain ⟨h0,h1',h2⟩:=at?_nat hn
     obtain ⟨ide,ge,oe,vse,roe,e1,e2,e3,e4,e5⟩:=SlRd.ixA X5.rd (fun _=>rfl) hn
     have:=(e1 .i64).symm.trans u1
     simp only [Option.some.injEq,Prod.mk.injEq,AVal.ptr.injEq,and_true] at this
     obtain ⟨rfl,rfl,rfl⟩:=this
     exact e1 k
    simp -implicitDefEqProofs (disch:=first|exact dz _|fail) only [↓qJ,qK,qL,qA,qB,qC,qD,qE,↓reduceIte,qG,qH,qI,this,u2,u4,y0,y1,y2,y4,y8,y10,y11,gt5]
    refine callI_of (iOne P5 a5 q5 z5 hp) ?_
    rintro v9 h9 ⟨γ9,P9,N9,_⟩
    simp -implicitDefEqProofs (disch:=first|exact dz _|fail) only [↓qJ,qK,qL,qA,qB,qC,qD,qE,↓reduceIte,qG,qH,qI]
    subst hQ
    exact ⟨γ9,P9,(N1.trans (Nxt.tmp (Chg.n0 f5))).trans N9⟩
end
end Go.Proofs.Ytnbnpjhlflcjeaa.Id
namespace Go.Proofs.Ytnbnpjhlflcjeaa.Id
open Go Go.AM Go.Proofs.Ytnbnpjhlflcjeaa.AmGF
open Nat renaming reduceAdd → qA,reduceLeDiff → qB,reduceEqDiff → qC,reduceLT → qE
open Int renaming reduceToNat → qD,reduceEq → qG,reduceLT → qH,reduceLE → qI
section
variable {h0 h h':AHeap} {K:Nat→Tag} {γ:GI} {R:Run}
theorem newChan (P:RunP h γ R) (n:Nat) (kind:Int) :
  ∃ K',ThP ((h.push (.cells 0 false [.nils,.int .i64 (n:Int),.bool false,.nils,.nils])).push (.cells 0 false (List.replicate (n+2) (.int .u64 0)))) K' R.things.length (kind,.sl (h.n+1) 0 0 (n+2) 1,.ptr h.n 0 0) ⟨kind,zeros (n+2),some ⟨[],(n:Int),false,[],[]⟩⟩ ∧
   Chg (fun _=>False) h ((h.push (.cells 0 false [.nils,.int .i64 (n:Int),.bool false,.nils,.nils])).push (.cells 0 false (List.replicate (n+2) (.int .u64 0)))) γ.K K'∧(∀ j,K' j≠.no→j<((h.push (.cells 0 false [.nils,.int .i64 (n:Int),.bool false,.nils,.nils])).push (.cells 0 false (List.replicate (n+2) (.int .u64 0)))).n):=by
 refine ⟨fun j=>if j=h.n then .chan R.things.length else if j=h.n+1 then .words R.things.length else γ.K j,⟨rfl,⟨[h.n+1],.inr ⟨h.n+1,0,0,_,by simp [zeros],AHeap.get_push_same (h.push _) _,by simp,by simp [zeros],by simp [zeros,flatP],rfl⟩,fun j hj=>?_⟩,⟨h.n,[h.n],rfl,(chan0 h n).frame (by simp) fun j hj=>?_,fun j hj=>?_⟩⟩,(((Chg.refl _ h γ.K).push _).push _).tag fun j hj=>?_,fun j hj=>?_⟩
 ·obtain rfl:j=h.n+1:=by simpa using hj
  show (if _ then _ else _)=_
  rw [if_neg (by omega),if_pos rfl]
 ·obtain rfl:j=h.n:=by simpa using hj
  rw [AHeap.get_push_ne _ _ (by simp)]
 ·obtain rfl:j=h.n:=by simpa using hj
  exact if_pos rfl
 ·show (if _ then _ else _)=_
  rw [if_neg (by omega),if_neg (by omega)]
 ·by_cases e1:j=h.n
  ·subst e1;simp;omega
  ·by_cases e2:j=h.n+1
   ·subst e2;simp
   ·simp only [if_neg e1,if_neg e2] at hj
    have:=P.k0 j hj
    simp;omega
theorem ix_keep {n:Nat} {v i:AVal} {id g o:Nat} (e:ixV h n v i=some (.ptr id g o,h)) (k:h'.get id=h.get id):ixV h' n v i=some (.ptr id g o,h'):=by
 cases v with
 | sl a b c d e' =>
  cases i with
  | int _ m =>
   simp only [ixV] at e ⊢
   split at e
   ·rename_i hc
    simp only [Option.some.injEq,Prod.mk.injEq,AVal.ptr.injEq,and_true] at e
    obtain ⟨rfl,rfl,rfl⟩:=e
    rw [if_pos ⟨hc.1,hc.2.1,hc.2.2.1,by rw [hc.2.2.2];unfold AHeap.gen;rw [k]⟩]
   ·cases e
  | _=>simp [ixV] at e
 | _=>simp [ixV] at e
set_option maxHeartbeats 16000000 in
theorem iChannels (P:RunP h γ R) {k j i:Nat} {r:Routine} {f:Frame} {x:Nat×List Nat} (a:At h γ R k j r f x i) {sv iv lv vv fv:AVal} {la:List (Int×AVal)} (s:RtV h γ.K k x.1 x.2 r fv) (q:FrV h γ.K k j i f sv iv lv vv la) {z:PIns} {zv:AVal} (hz:Ro h γ.K fun h=>SlRd h 1 encK zv z.list) {choice:Int} {R':Run} (hp:R.channels k j z choice=some R') :
  CallP AP 68 [.ptr γ.d 0 0,.ptr x.1 0 0,.ptr i 0 0,.agg (rowI z zv),.int .u64 choice] h fun v h'=>∃ γ',RunP h' γ' R'∧Nxt h h' γ γ':=by
 refine callP (rfl:Tr.get AP 68=some A68) ?_
 generalize hQ:(fun (r:AVal) (h':AHeap)=>_)=Q
 have c1:=(Chg.refl (fun _=>False) h γ.K).push (.cells 0 false (rowI z zv))
 have N1:=Nxt.tmp c1
 have P1:=P.tmp c1
 have q1:=q.keep c1 (fun q=>q) (fun q=>q) (fun q=>q) (fun q=>q)
 have r1:=s.keep c1 (fun q=>q) (fun q=>q) (fun q=>q) (fun k=>⟨fun q=>q,fun q=>q,fun q=>q⟩)
 have z1:=hz.keep c1 (fun q=>q)
 have ho:=P1.obj
 have hlt:=P1.ltd
 have kn:=P.kn
 have gt:(h.push (.cells 0 false (rowI z zv))).get h.n=.cells 0 false (rowI z zv):=AHeap.get_push_same _ _
 have lt:h.n<(h.push (.cells 0 false (rowI z zv))).n:=by simp
 have zc:=hz.now.cells
 have zb:=hz.now.beq
 simp -implicitDefEqProofs (disch:=first|exact dz _|fail) only [↓qJ,qK,qL,qA,qB,qC,qD,qE,↓reduceIte,qG,qH,qI,rowI,zc.2]
 generalize (h.push (.cells 0 false (rowI z zv)))=h1 at *
 generalize h.n=t at *
 have a1:At h1 γ R k j r f x i:=⟨a.hr,a.hf,a.hx,a.hi⟩
 have hq:=q1.obj
 have hqlt:=q1.lt
 have hro:=r1.obj
 have hrlt:=r1.lt
 unfold Run.channels Run.fr? at hp
 rw [a.hr] at hp
 simp only [Option.bind_some,a.hf] at hp
 simp only [rowI] at gt
 simp -implicitDefEqProofs (disch:=first|exact dz _|fail) only [↓qJ,qK,qL,qA,qB,qC,qD,qE,↓reduceIte,qG,qH,qI,gt,hq]
 by_cases o1:z.op=41
 ·rw [if_pos o1] at hp
  have d1:decide (z.op=41)=true:=decide_eq_true o1
  split at hp
  ·rename_i himm
   simp only [Option.bind_eq_some_iff] at hp
   obtain ⟨F,hF,kind,hkind,R2,hadd,hp⟩:=hp
   have wi:IntKind.i64.wrap ((z.imm:Nat):Int)=(z.imm:Nat):=wrap64 (by omega) (by omega)
   have wi2:IntKind.i64.wrap (((z.imm:Nat):Int)+2)=((z.imm+2:Nat):Int):=(wrap64 (by omega) (by omega)).trans (by omega)
   simp -implicitDefEqProofs (disch:=first|exact dz _|fail) only [↓qJ,qK,qL,qA,qB,qC,qD,qE,↓reduceIte,qG,qH,qI,d1,gt,wi]
   refine callI_of (new h1 _) ?_
   rintro v h2 hv
   rw [if_neg (by omega)] at hv
   obtain ⟨rfl,hh2⟩:=hv
   obtain ⟨K3,T3,C3,kk3⟩:=newChan P1 z.imm kind
   have c2:=(Chg.refl (fun _=>False) h1 γ.K).push (.cells 0 false [.nils,.int .i64 (z.imm:Int),.bool false,.nils,.nils])
   rw [←hh2] at T3 C3 kk3 c2
   have P2:=P1.tmp c2
   have ho2:=P2.obj
   have hlt2:=P2.ltd
   have q2:=q1.keep c2 (fun q=>q) (fun q=>q) (fun q=>q) (fun q=>q)
   have hq2:=q2.obj
   have hqlt2:=q2.lt
   have gt2:=(c2.keep lt kn (fun q=>q)).trans gt
   have lt2:=Nat.lt_of_lt_of_le lt c2.n
   have n2:h2.n=h1.n+1:=by rw [hh2];rfl
   rw [←n2] at T3
   obtain ⟨idp,gp,offp,vsp,rop,row,p1,p2,p3,p4,p5,p6,p7,svp,rvp,cvp,rfl,s1p,s2p,s3p⟩:=P2.prog.f.ix hF
   have p8:vsp[offp+1]?=some svp:=row_at p6 (by omega)
   obtain ⟨idk,gk,ok,vsk,rok,k1,k2,k3,k4⟩:=SlRd.ixI (enc:=fun n=>.int .i64 n) s1p.now hkind
   have ms:=fun h=>ms_u64 h (z.imm+2) (by omega)
   have gt3:=(C3.keep lt kn (fun q=>q)).trans gt
   have lt3:=Nat.lt_of_lt_of_le lt C3.n
   have ho3:=(C3.keep P1.ltd P1.kd (fun q=>q)).trans P1.obj
   have q3:=q1.keep C3 (fun q=>q) (fun q=>q) (fun q=>q) (fun q=>q)
   have hq3:=q3.obj
   have nn:∀ o,(h2.push o).n=h2.n+1:=fun _=>rfl
   simp -implicitDefEqProofs (disch:=first|exact dz _|fail) only [↓qJ,qK,qL,qA,qB,qC,qD,qE,↓reduceIte,qG,qH,qI,d1,gt2,ho2,hq2,p1,p2,p8,k1,k2,k4,wi,wi2,ms]
   refine trCall_of (add (h0:=h1) hadd C3.n P1 C3 kk3 T3 rfl rfl) ?_
   rintro v h4 ⟨rfl,γ',P4,N4,eg,c4⟩
   have e2:R2.gs=R.gs:=by
    simp only [Run.addT,Option.map_eq_some_iff] at hadd
    obtain ⟨l,_,rfl⟩:=hadd;rfl
   have q4:=q1.keep c4 (TT.no Tag.noConfusion Tag.noConfusion) (TT.no Tag.noConfusion Tag.noConfusion) (TT.no Tag.noConfusion Tag.noConfusion) (TT.no Tag.noConfusion Tag.noConfusion)
   obtain ⟨id2,g2,o2,vs2,y1,y2,y3,y4,P5,N5,y5⟩:=P4.put ⟨by rw [e2];exact a.hr,a.hf,by rw [eg];exact a.hx,a.hi⟩ q4 hp
   have kn4:=(c4.k _ lt).trans kn
   have ne:t≠id2:=fun e=>by rw [←e] at y5;rw [kn4] at y5;cases y5
   have gt4:=(c4.keep lt kn (TT.no Tag.noConfusion Tag.noConfusion)).trans gt
   have lt4:=Nat.lt_of_lt_of_le lt c4.n
   have p1':=fun o k=>ix_keep (h':=h2.push o) (p1 k) (AHeap.get_push_ne _ _ (by omega))
   have k1':=fun o=>ix_keep (h':=h2.push o) k1 (AHeap.get_push_ne _ _ (by omega))
   have fb:=P1.prog.f.beq
   have svb:=s1p.now.beq
   simp -implicitDefEqProofs (disch:=first|exact dz _|fail) only [↓qJ,qK,qL,qA,qB,qC,qD,qE,↓reduceIte,qG,qH,qI,d1,gt,gt2,gt4,ho2,hq2,p1,p1',p2,p8,k1,k1',k2,k4,fb,svb,y1,y3,y4,ne]
   subst hQ
   exact ⟨γ',P5,(N1.trans N4).trans N5⟩
  ·cases hp
 rw [if_neg o1] at hp
 have d1:decide (z.op=41)=false:=decide_eq_false o1
 by_cases o2:z.op=44
 ·rw [if_pos o2] at hp
  have d2:decide (z.op=44)=true:=decide_eq_true o2
  simp only [Option.bind_eq_some_iff] at hp
  obtain ⟨w,hw,hp⟩:=hp
  obtain ⟨id,g,off,vs,x1,x2,x3,x4⟩:=q1.slots.ix (enc:=fun n=>.int .u64 n) hw
  simp -implicitDefEqProofs (disch:=first|exact dz _|fail) only [↓qJ,qK,qL,qA,qB,qC,qD,qE,↓reduceIte,qG,qH,qI,gt,d1,d2,x1,x2,x4]
  refine callI_of (iClose P1 hp) ?_
  rintro v h3 ⟨γ',P3,N3⟩
  simp -implicitDefEqProofs (disch:=first|exact dz _|fail) only [↓qJ,qK,qL,qA,qB,qC,qD,qE,↓reduceIte,qG,qH,qI]
  subst hQ
  exact ⟨γ',P3,N1.trans N3⟩
 rw [if_neg o2] at hp
 have d2:decide (z.op=44)=false:=decide_eq_false o2
 have wt:∀ (h5:AHeap) (γ5:GI) (R5:Run),RunP h5 γ5 R5→Nxt h1 h5 γ γ5→R5.waits k=some R'→∃ fv5 r5,R5.gs[k]?=some r5∧h5.get x.1=.cells 0 false [.int .i64 r5.state,.int .u64 r5.till,.bool r5.sleeps,fv5,.int .u64 r5.serial,.bool r5.panics,.int .i64 r5.number,.bool r5.hit]∧x.1<h5.n ∧
   ∃ γ',RunP (h5.set x.1 (.cells 0 false [.int .i64 2,.int .u64 r5.till,.bool r5.sleeps,fv5,.int .u64 r5.serial,.bool r5.panics,.int .i64 r5.number,.bool r5.hit])) γ' R'∧Nxt h1 (h5.set x.1 (.cells 0 false [.int .i64 2,.int .u64 r5.till,.bool r5.sleeps,fv5,.int .u64 r5.serial,.bool r5.panics,.int .i64 r5.number,.bool r5.hit])) γ γ':=by
  intro h5 γ5 R5 P5 N5 hw
  simp only [Run.waits,Option.map_eq_some_iff] at hw
  obtain ⟨r5,hr5,rfl⟩:=hw
  obtain ⟨x5,fv5,hx5,s5⟩:=P5.rt hr5
  obtain ⟨l,hl⟩:=N5.ids k x a.hx
  obtain rfl:x5=(x.1,l):=by have:=hx5.symm.trans hl;cases this;rfl
  obtain ⟨P6,N6⟩:=P5.setRow0 (r':={ r5 with state:=2 }) ((Chg.refl (·=.rt k) h5 γ5.K).set (i:=x.1) (fun _=>s5.kid) (.cells 0 false [.int .i64 2,.int .u64 r5.till,.bool r5.sleeps,fv5,.int .u64 r5.serial,.bool r5.panics,.int .i64 r5.number,.bool r5.hit])) hr5 hx5 s5 rfl (AHeap.get_set_same _ _ _)
  exact ⟨fv5,r5,hr5,s5.obj,s5.lt,γ5,P6,N5.trans N6⟩
 by_cases o3:z.op=42
 ·rw [if_pos o3] at hp
  have d3:decide (z.op=42)=true:=decide_eq_true o3
  simp only [Option.bind_eq_some_iff] at hp
  obtain ⟨w,hw,sc,hch,hp⟩:=hp
  obtain ⟨id,g,off,vs,x1,x2,x3,x4⟩:=q1.slots.ix (enc:=fun n=>.int .u64 n) hw
  simp -implicitDefEqProofs (disch:=first|exact dz _|fail) only [↓qJ,qK,qL,qA,qB,qC,qD,qE,↓reduceIte,qG,qH,qI,gt,d1,d2,d3,x1,x2,x4]
  refine callI_of (channel P1 hch) ?_
  rintro v h2 ⟨hv,rfl⟩
  cases sc with
  | none =>
   rcases hv with ⟨rfl,_⟩ | ⟨_,_,_,_,e,_⟩
   ·obtain ⟨fv5,r5,_,g5,l5,γ',P6,N6⟩:=wt h2 γ R P1 (Nxt.refl _ _) hp
    simp -implicitDefEqProofs (disch:=first|exact dz _|fail) only [↓qJ,qK,qL,qA,qB,qC,qD,qE,↓reduceIte,qG,qH,qI,g5]
    subst hQ
    exact ⟨γ',P6,N1.trans N6⟩
   ·cases e
  | some sc =>
   simp only [Option.bind_eq_some_iff] at hp
   obtain ⟨vq,hvq,⟨b,R3⟩,hsd,hp⟩:=hp
   obtain ⟨ide,ge,oe,vse,e1,e2,e3,e4⟩:=q1.slots.ix (enc:=fun n=>.int .u64 n) hvq
   have hv':=hv
   obtain ⟨y,ci,Fc,hy,ey,rfl,H,kF⟩:=hv.some
   simp -implicitDefEqProofs (disch:=first|exact dz _|fail) only [↓qJ,qK,qL,qA,qB,qC,qD,qE,↓reduceIte,qG,qH,qI,ho,gt]
   refine trCall_of (name _ _ _) ?_
   rintro v h3 ⟨rfl,rfl⟩
   simp -implicitDefEqProofs (disch:=first|exact dz _|fail) only [↓qJ,qK,qL,qA,qB,qC,qD,qE,↓reduceIte,qG,qH,qI,gt,e1,e2,e4]
   refine trCall_of (iSend P1 hv' hch hsd) ?_
   rintro v h4 ⟨rfl,γ4,P4,N4⟩
   cases b with
   | true =>
    simp only [if_true,Option.some.injEq] at hp
    subst hp
    simp -implicitDefEqProofs (disch:=first|exact dz _|fail) only [↓qJ,qK,qL,qA,qB,qC,qD,qE,↓reduceIte,qG,qH,qI,gt,ho,e1,e2,e4]
    subst hQ
    exact ⟨γ4,P4,N1.trans N4⟩
   | false =>
    simp only [Bool.false_eq_true,if_false] at hp
    obtain ⟨fv5,r5,_,g5,l5,γ',P6,N6⟩:=wt h4 γ4 R3 P4 N4 hp
    simp -implicitDefEqProofs (disch:=first|exact dz _|fail) only [↓qJ,qK,qL,qA,qB,qC,qD,qE,↓reduceIte,qG,qH,qI,gt,ho,e1,e2,e4,g5]
    subst hQ
    exact ⟨γ',P6,N1.trans N6⟩
 rw [if_neg o3] at hp
 have d3:decide (z.op=42)=false:=decide_eq_false o3
 by_cases o4:z.op=43
 ·rw [if_pos o4] at hp
  have d4:decide (z.op=43)=true:=decide_eq_true o4
  simp only [Option.bind_eq_some_iff] at hp
  obtain ⟨w,hw,sc,hch,hp⟩:=hp
  obtain ⟨id,g,off,vs,x1,x2,x3,x4⟩:=q1.slots.ix (enc:=fun n=>.int .u64 n) hw
  simp -implicitDefEqProofs (disch:=first|exact dz _|fail) only [↓qJ,qK,qL,qA,qB,qC,qD,qE,↓reduceIte,qG,qH,qI,gt,d1,d2,d3,d4,x1,x2,x4]
  refine callI_of (channel P1 hch) ?_
  rintro v h2 ⟨hv,rfl⟩
  cases sc with
  | none =>
   rcases hv with ⟨rfl,_⟩ | ⟨_,_,_,_,e,_⟩
   ·obtain ⟨fv5,r5,_,g5,l5,γ',P6,N6⟩:=wt h2 γ R P1 (Nxt.refl _ _) hp
    simp -implicitDefEqProofs (disch:=first|exact dz _|fail) only [↓qJ,qK,qL,qA,qB,qC,qD,qE,↓reduceIte,qG,qH,qI,g5]
    subst hQ
    exact ⟨γ',P6,N1.trans N6⟩
   ·cases e
  | some sc =>
   simp only [Option.bind_eq_some_iff] at hp
   obtain ⟨⟨b,R3⟩,hsd,hp⟩:=hp
   have hv':=hv
   obtain ⟨y,ci,Fc,hy,ey,rfl,H,kF⟩:=hv.some
   simp -implicitDefEqProofs (disch:=first|exact dz _|fail) only [↓qJ,qK,qL,qA,qB,qC,qD,qE,↓reduceIte,qG,qH,qI,ho,gt]
   refine trCall_of (name _ _ _) ?_
   rintro v h3 ⟨rfl,rfl⟩
   simp -implicitDefEqProofs (disch:=first|exact dz _|fail) only [↓qJ,qK,qL,qA,qB,qC,qD,qE,↓reduceIte,qG,qH,qI,gt]
   refine trCall_of (iRecv P1 a1 q1 hv' hch hsd) ?_
   rintro v h4 ⟨rfl,γ4,P4,N4⟩
   cases b with
   | true =>
    simp only [if_true,Option.some.injEq] at hp
    subst hp
    simp -implicitDefEqProofs (disch:=first|exact dz _|fail) only [↓qJ,qK,qL,qA,qB,qC,qD,qE,↓reduceIte,qG,qH,qI,gt,ho]
    subst hQ
    exact ⟨γ4,P4,N1.trans N4⟩
   | false =>
    simp only [Bool.false_eq_true,if_false] at hp
    obtain ⟨fv5,r5,_,g5,l5,γ',P6,N6⟩:=wt h4 γ4 R3 P4 N4 hp
    simp -implicitDefEqProofs (disch:=first|exact dz _|fail) only [↓qJ,qK,qL,qA,qB,qC,qD,qE,↓reduceIte,qG,qH,qI,gt,ho,g5]
    subst hQ
    exact ⟨γ',P6,N1.trans N6⟩
 rw [if_neg o4] at hp
 have d4:decide (z.op=43)=false:=decide_eq_false o4
 by_cases o5:z.op=45
 ·rw [if_pos o5] at hp
  have d5:decide (z.op=45)=true:=decide_eq_true o5
  simp -implicitDefEqProofs (disch:=first|exact dz _|fail) only [↓qJ,qK,qL,qA,qB,qC,qD,qE,↓reduceIte,qG,qH,qI,gt,d1,d2,d3,d4,d5]
  refine callI_of (iChoose P1 a1 r1 q1 z1 hp) ?_
  rintro v h3 ⟨γ',P3,N3⟩
  simp -implicitDefEqProofs (disch:=first|exact dz _|fail) only [↓qJ,qK,qL,qA,qB,qC,qD,qE,↓reduceIte,qG,qH,qI]
  subst hQ
  exact ⟨γ',P3,N1.trans N3⟩
 ·rw [if_neg o5] at hp
  have d5:decide (z.op=45)=false:=decide_eq_false o5
  cases hp
  simp -implicitDefEqProofs (disch:=first|exact dz _|fail) only [↓qJ,qK,qL,qA,qB,qC,qD,qE,↓reduceIte,qG,qH,qI,gt,d1,d2,d3,d4,d5]
  subst hQ
  exact ⟨γ,P1,N1⟩
end
end Go.Proofs.Ytnbnpjhlflcjeaa.Id
namespace Go.Proofs.Ytnbnpjhlflcjeaa.Id
open Go Go.AM Go.Proofs.Ytnbnpjhlflcjeaa.AmGF
open Nat renaming reduceAdd → qA,reduceLeDiff → qB,reduceEqDiff → qC,reduceLT → qE
open Int renaming reduceToNat → qD,reduceEq → qG,reduceLT → qH,reduceLE → qI
theorem ishr_eq (k:IntKind) (a:Int) {b:Int} (h0:0≤b) (h1:b≤k.bits):ishr k a b=a.fdiv (2^b.toNat):=by
 have hn:neg? b=false:=by rw [neg?_eq,decide_eq_false_iff_not];omega
 have hs:shiftN k b=b.toNat:=by rw [shiftN_eq hn];omega
 cases a with
 | ofNat m =>
  simp only [ishr,hs]
  show ((m >>> b.toNat:Nat):Int)=(m:Int).fdiv (2^b.toNat)
  rw [Nat.shiftRight_eq_div_pow,Int.fdiv_eq_ediv_of_nonneg _ (Int.le_of_lt (Int.pow_pos (by decide)))]
  simp
 | negSucc m=>simp only [ishr,hs]
theorem bin_shrI (h:AHeap) (k l:IntKind) (a b:Int) (h3:0≤b) (h4:b≤k.bits):binV h .shr (.int k a) (.int l b)=some (.int k (a.fdiv (2^b.toNat)),h):=by
 have hn:neg? b=false:=by rw [neg?_eq,decide_eq_false_iff_not];omega
 simp only [binV,ibin,hn,cond_false,Option.map_some,ishr_eq k a h3 h4]
theorem wholeOps {op:Int} (h:isWhole op=true):op=3∨op=4∨op=5∨op=6∨op=7∨op=8∨op=9∨op=10∨op=11∨op=12∨op=13∨op=14∨op=23:=by
 simp only [isWhole,Bool.or_eq_true,Bool.and_eq_true,decide_eq_true_eq] at h;omega
theorem i64_ne0 {y:Int} (h0:0≤y) (h1:y≤18446744073709551615) (h:y≠0):IntKind.i64.wrap y≠0:=by
 rw [wrap_eq];simp only;split<;>omega
set_option maxHeartbeats 4000000 in
theorem whole (h:AHeap) (op x y:Int) (hm:isWhole op=true) {o:Option Int} (hp:wholeF op x y=some o):CallP AP 61 [.int .i64 op,.int .u64 x,.int .u64 y] h fun r h'=>h'=h∧r=.tup [.int .u64 (o.getD 0),.bool o.isSome]:=by
 refine callP (rfl:Tr.get AP 61=some A61) ?_
 generalize hQ:(fun (r:AVal) (h':AHeap)=>_)=Q
 unfold wholeF at hp
 by_cases hw:wok x=true∧wok y=true
 ·rw [if_pos hw] at hp
  simp only [wok,Bool.and_eq_true,decide_eq_true_eq] at hw
  obtain ⟨⟨x0,x1⟩,y0,y1⟩:=hw
  have km:kMax .u64=18446744073709551615:=rfl
  have kb:IntKind.u64.bits=64:=rfl
  have kb2:IntKind.i64.bits=64:=rfl
  have ba:=AM.bin_and h .u64 x y x0 (by omega) y0 (by omega)
  have bo:=AM.bin_or h .u64 x y x0 (by omega) y0 (by omega)
  have bx:=AM.bin_xor h .u64 x y x0 (by omega) y0 (by omega)
  have b63:=AM.bin_and h .u64 y 63 y0 (by omega) (by omega) (by omega)
  have e63:y.toNat &&& (63:Int).toNat=y.toNat%64:=Nat.and_two_pow_sub_one_eq_mod y.toNat 6
  rw [e63] at b63
  have hlt:y.toNat%64<64:=Nat.mod_lt _ (by omega)
  have bs:=AM.bin_shl h .u64 .u64 x ((y.toNat%64:Nat):Int) (by omega)
  rw [kb,Int.toNat_natCast,Nat.min_eq_left (by omega)] at bs
  have br:=bin_shrI h .i64 .u64 (IntKind.i64.wrap x) ((y.toNat%64:Nat):Int) (by omega) (by omega)
  rw [Int.toNat_natCast] at br
  rcases wholeOps hm with rfl | rfl | rfl | rfl | rfl | rfl | rfl | rfl | rfl | rfl | rfl | rfl | rfl<;>simp only [Int.reduceEq,if_false,if_true,or_false,or_true,false_or,or_self,Option.some.injEq] at hp
  ·subst hp;simp -implicitDefEqProofs (disch:=first|exact dz _|fail) only [↓qJ,qK,qL,qA,qB,qC,qD,qE,↓reduceIte,qG,qH,qI];subst hQ;exact ⟨rfl,rfl⟩
  ·subst hp;simp -implicitDefEqProofs (disch:=first|exact dz _|fail) only [↓qJ,qK,qL,qA,qB,qC,qD,qE,↓reduceIte,qG,qH,qI];subst hQ;exact ⟨rfl,rfl⟩
  ·subst hp;simp -implicitDefEqProofs (disch:=first|exact dz _|fail) only [↓qJ,qK,qL,qA,qB,qC,qD,qE,↓reduceIte,qG,qH,qI];subst hQ;exact ⟨rfl,rfl⟩
  ·by_cases c:y=0
   ·rw [if_pos c] at hp
    simp only [Option.some.injEq] at hp
    subst hp
    have d:decide (y=0)=true:=decide_eq_true c
    simp -implicitDefEqProofs (disch:=first|exact dz _|fail) only [↓qJ,qK,qL,qA,qB,qC,qD,qE,↓reduceIte,qG,qH,qI,d];subst hQ;exact ⟨rfl,rfl⟩
   ·rw [if_neg c] at hp
    simp only [Option.some.injEq] at hp
    subst hp
    have d:decide (y=0)=false:=decide_eq_false c
    have bq:=AM.bin_quo h .i64 (IntKind.i64.wrap x) (IntKind.i64.wrap y) (i64_ne0 y0 y1 c)
    simp -implicitDefEqProofs (disch:=first|exact dz _|fail) only [↓qJ,qK,qL,qA,qB,qC,qD,qE,↓reduceIte,qG,qH,qI,d,bq];subst hQ;exact ⟨rfl,rfl⟩
  ·by_cases c:y=0
   ·rw [if_pos c] at hp
    simp only [Option.some.injEq] at hp
    subst hp
    have d:decide (y=0)=true:=decide_eq_true c
    simp -implicitDefEqProofs (disch:=first|exact dz _|fail) only [↓qJ,qK,qL,qA,qB,qC,qD,qE,↓reduceIte,qG,qH,qI,d];subst hQ;exact ⟨rfl,rfl⟩
   ·rw [if_neg c] at hp
    simp only [Option.some.injEq] at hp
    subst hp
    have d:decide (y=0)=false:=decide_eq_false c
    have bq:=AM.bin_rem h .i64 (IntKind.i64.wrap x) (IntKind.i64.wrap y) (i64_ne0 y0 y1 c)
    simp -implicitDefEqProofs (disch:=first|exact dz _|fail) only [↓qJ,qK,qL,qA,qB,qC,qD,qE,↓reduceIte,qG,qH,qI,d,bq];subst hQ;exact ⟨rfl,rfl⟩
  ·subst hp;simp -implicitDefEqProofs (disch:=first|exact dz _|fail) only [↓qJ,qK,qL,qA,qB,qC,qD,qE,↓reduceIte,qG,qH,qI,ba];subst hQ;exact ⟨rfl,rfl⟩
  ·subst hp;simp -implicitDefEqProofs (disch:=first|exact dz _|fail) only [↓qJ,qK,qL,qA,qB,qC,qD,qE,↓reduceIte,qG,qH,qI,bo];subst hQ;exact ⟨rfl,rfl⟩
  ·subst hp;simp -implicitDefEqProofs (disch:=first|exact dz _|fail) only [↓qJ,qK,qL,qA,qB,qC,qD,qE,↓reduceIte,qG,qH,qI,bx];subst hQ;exact ⟨rfl,rfl⟩
  ·subst hp;simp -implicitDefEqProofs (disch:=first|exact dz _|fail) only [↓qJ,qK,qL,qA,qB,qC,qD,qE,↓reduceIte,qG,qH,qI,b63,bs];subst hQ;exact ⟨rfl,rfl⟩
  ·subst hp;simp -implicitDefEqProofs (disch:=first|exact dz _|fail) only [↓qJ,qK,qL,qA,qB,qC,qD,qE,↓reduceIte,qG,qH,qI,b63,br];subst hQ;exact ⟨rfl,rfl⟩
  ·subst hp;simp -implicitDefEqProofs (disch:=first|exact dz _|fail) only [↓qJ,qK,qL,qA,qB,qC,qD,qE,↓reduceIte,qG,qH,qI]
   refine callI_of (bit _ _) ?_
   rintro v h2 ⟨rfl,rfl⟩
   simp -implicitDefEqProofs (disch:=first|exact dz _|fail) only [↓qJ,qK,qL,qA,qB,qC,qD,qE,↓reduceIte,qG,qH,qI];subst hQ;exact ⟨rfl,rfl⟩
  ·subst hp;simp -implicitDefEqProofs (disch:=first|exact dz _|fail) only [↓qJ,qK,qL,qA,qB,qC,qD,qE,↓reduceIte,qG,qH,qI]
   refine callI_of (bit _ _) ?_
   rintro v h2 ⟨rfl,rfl⟩
   simp -implicitDefEqProofs (disch:=first|exact dz _|fail) only [↓qJ,qK,qL,qA,qB,qC,qD,qE,↓reduceIte,qG,qH,qI];subst hQ;exact ⟨rfl,rfl⟩
  ·subst hp;simp -implicitDefEqProofs (disch:=first|exact dz _|fail) only [↓qJ,qK,qL,qA,qB,qC,qD,qE,↓reduceIte,qG,qH,qI]
   refine callI_of (bit _ _) ?_
   rintro v h2 ⟨rfl,rfl⟩
   simp -implicitDefEqProofs (disch:=first|exact dz _|fail) only [↓qJ,qK,qL,qA,qB,qC,qD,qE,↓reduceIte,qG,qH,qI];subst hQ;exact ⟨rfl,rfl⟩
 ·rw [if_neg hw] at hp;cases hp
end Go.Proofs.Ytnbnpjhlflcjeaa.Id
namespace Go.Proofs.Ytnbnpjhlflcjeaa.Id
open Go Go.AM Go.Proofs.Ytnbnpjhlflcjeaa.AmGF
open Nat renaming reduceAdd → qA,reduceLeDiff → qB,reduceEqDiff → qC,reduceLT → qE
open Int renaming reduceToNat → qD,reduceEq → qG,reduceLT → qH,reduceLE → qI
theorem put2 {R R':Run} {k j:Nat} {a w w':Int} (hp:R.put k j a w'=some R'):∃ R1,R.put k j a w=some R1∧R1.put k j a w'=some R':=by
 unfold Run.put at hp ⊢
 cases hf:R.fr? k j with
 | none=>rw [hf] at hp;cases hp
 | some f =>
  rw [hf] at hp
  simp only [Option.bind_some,Option.map_eq_some_iff] at hp ⊢
  obtain ⟨s,hs,rfl⟩:=hp
  unfold set? at hs
  split at hs
  ·rename_i hc
   cases hs
   refine ⟨_,⟨f.slots.set a.toNat w,by unfold set?;rw [if_pos hc],rfl⟩,?_⟩
   obtain ⟨r,hr,hfj⟩:=Run.fr?_some hf
   have e1:∀ f',(R.setF k j f')=R.setR k (r.setF j f'):=fun f'=>Run.setF_eq hr
   have hk:=(List.getElem?_eq_some_iff.1 hr).1
   have hj:=(List.getElem?_eq_some_iff.1 hfj).1
   have e2:(R.setR k (r.setF j { f with slots:=f.slots.set a.toNat w })).gs[k]?=some (r.setF j { f with slots:=f.slots.set a.toNat w }):=List.getElem?_set_self hk
   have e3:(r.setF j { f with slots:=f.slots.set a.toNat w }).frames[j]?=some { f with slots:=f.slots.set a.toNat w }:=List.getElem?_set_self hj
   have e4:(R.setF k j { f with slots:=f.slots.set a.toNat w }).fr? k j=some { f with slots:=f.slots.set a.toNat w }:=by
    rw [e1];unfold Run.fr?;rw [e2,Option.bind_some,e3]
   rw [e4]
   simp only [Option.bind_some]
   unfold set?
   rw [if_pos (by rw [List.length_set];exact hc),Option.map_some,e1,Run.setF_eq e2]
   rw [e1]
   congr 1
   unfold Run.setR Routine.setF
   simp only [List.set_set]
  ·cases hs
end Go.Proofs.Ytnbnpjhlflcjeaa.Id