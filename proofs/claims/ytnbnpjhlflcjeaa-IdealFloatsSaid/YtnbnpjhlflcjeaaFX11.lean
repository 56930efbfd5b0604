/-
 What the functions of this seat do,on the machine: lemmas for the laws.
-/
import Derived.Test.YtnbnpjhlflcjeaaFX6
import Derived.Test.YtnbnpjhlflcjeaaFX10
set_option linter.unusedSimpArgs false
set_option linter.unusedVariables false
set_option maxRecDepth 100000
attribute [local irreducible] Go.AM.wp Go.AM.wpIs Go.AM.wpTr Go.AM.opI Go.AM.gI Go.AM.cI Go.AM.trI Go.AM.callI Go.AM.fnI Go.AM.yldI Go.AM.rangeI Go.AM.rangeC Go.AM.YldP Go.AM.asgQ Go.AM.roundQ Go.AM.rangeQ Go.AM.trG Go.AM.trOp Go.AM.trCall Go.AM.seqC Go.AM.loopI
namespace Go.Proofs.Ytnbnpjhlflcjeaa.Id
open Go Go.AM Go.Proofs.Ytnbnpjhlflcjeaa.AmGF
open Nat renaming reduceAdd → qA,reduceLeDiff → qB,reduceEqDiff → qC,reduceLT → qE
open Int renaming reduceToNat → qD,reduceEq → qG,reduceLT → qH,reduceLE → qI
section
variable {h0 h h':AHeap} {K:Nat→Tag} {γ:GI} {R:Run}
set_option maxHeartbeats 40000000 in
theorem exec1 (P:RunP h γ R) {k j i:Nat} {r:Routine} {f:Frame} {x:Nat×List Nat} (a:At h γ R k j r f x i) {sv iv lv vv fv:AVal} {la:List (Int×AVal)} (s:RtV h γ.K k x.1 x.2 r fv) (q:FrV h γ.K k j i f sv iv lv vv la) {z:PIns} {zv:AVal} (hz:Ro h γ.K fun h=>SlRd h 1 encK zv z.list) {choice:Int} {R':Run} (hp:R.execute k j z choice=some R') (hm:z.op=1∨z.op=2∨z.op=24∨z.op=25∨z.op=46∨z.op=47∨z.op=48∨z.op=49∨z.op=50∨z.op=51∨z.op=52) :
  CallP AP 39 [.ptr γ.d 0 0,.ptr x.1 0 0,.ptr i 0 0,.agg (rowI z zv),.int .u64 choice] h fun v h'=>∃ γ',RunP h' γ' R'∧Nxt h h' γ γ':=by
 refine callP (rfl:Tr.get AP 39=some A39) ?_
 generalize hQ:(fun (r:AVal) (h':AHeap)=>_)=Q
 have c1:=(Chg.refl (fun _=>False) h γ.K).push (.cells 0 false (rowI z zv))
 have N1:=Nxt.tmp c1
 have P1:=P.tmp c1
 have q1:=q.keep c1 (fun q=>q) (fun q=>q) (fun q=>q) (fun q=>q)
 have r1:=s.keep c1 (fun q=>q) (fun q=>q) (fun q=>q) (fun k=>⟨fun q=>q,fun q=>q,fun q=>q⟩)
 have z1:=hz.keep c1 (fun q=>q)
 have ho:=P1.obj
 have hlt:=P1.ltd
 have kn:=P.kn
 have gt:(h.push (.cells 0 false (rowI z zv))).get h.n=.cells 0 false (rowI z zv):=AHeap.get_push_same _ _
 have lt:h.n<(h.push (.cells 0 false (rowI z zv))).n:=by simp
 have zc:=hz.now.cells
 have zb:=hz.now.beq
 simp -implicitDefEqProofs (disch:=first|exact dz _|fail) only [↓qJ,qK,qL,qA,qB,qC,qD,qE,↓reduceIte,qG,qH,qI,rowI,zc.2]
 generalize (h.push (.cells 0 false (rowI z zv)))=h1 at *
 generalize h.n=t at *
 have a1:At h1 γ R k j r f x i:=⟨a.hr,a.hf,a.hx,a.hi⟩
 have hq:=q1.obj
 have hqlt:=q1.lt
 have hro:=r1.obj
 have hrlt:=r1.lt
 have sb:=q1.slots.beq
 have ne:t≠i:=fun e=>by have:=q1.kid;rw [←e,kn] at this;cases this
 obtain ⟨op,za,zzb,zzc,imm,list⟩:=z
 simp only [rowI] at gt hp hm z1 ⊢
 unfold Run.execute at hp
 rw [a.hr] at hp
 simp only [Option.bind_some,a.hf] at hp
 rcases hm with rfl | rfl | rfl | rfl | rfl | rfl | rfl | rfl | rfl | rfl | rfl
 ·-- 1
  simp only [Int.reduceEq,if_false,if_true,isWhole,isFloat,isMem,isCall,isChan,Int.reduceLE,decide_true,decide_false,Bool.and_true,Bool.true_and,Bool.and_false,Bool.false_and,Bool.or_false,Bool.or_true,Bool.false_or,Bool.true_or,Bool.and_self,Bool.or_self,Bool.false_eq_true,Option.bind_eq_some_iff] at hp
  obtain ⟨ki,hki,hp⟩:=hp
  have hki':∃ F,at? R.p.funcs f.fn=some F∧at? F.slots za=some ki:=by simpa only [Run.kindOf,Option.bind_eq_some_iff] using hki
  obtain ⟨F,hF,hkind⟩:=hki'
  by_cases hk1:ki=1
  ·rw [if_pos hk1] at hp
   have d1:decide (ki=1)=true:=decide_eq_true hk1
   obtain ⟨R1,hp,hp2⟩:=put2 (w:=imm) hp
   obtain ⟨id2,g2,o2,vs2,f3,y1,y2,y3,y4,y5,P2,N2,C2,q2,a2,_,_⟩:=P1.putF a1 q1 hp
   have ne2:t≠id2:=fun e=>by rw [←e] at y5;rw [kn] at y5;cases y5
   have ni2:i≠id2:=fun e=>by rw [←e] at y5;have:=q1.kid.symm.trans y5;cases this
   have nd2:γ.d≠id2:=fun e=>by rw [←e] at y5;have:=P1.kd.symm.trans y5;cases this
   obtain ⟨idp,gp,offp,vsp,rop,row,p1,p2,p3,p4,p5,p6,p7,svp,rvp,cvp,rfl,s1p,s2p,s3p⟩:=(P1.prog.keep C2 Tag.noConfusion).f.ix hF
   have p8:vsp[offp+1]?=some svp:=row_at p6 (by omega)
   obtain ⟨idk,gk,ok,vsk,rok,k1,k2,k3,k4⟩:=SlRd.ixI (enc:=fun n=>.int .i64 n) s1p.now hkind
   obtain ⟨id4,g4,o4,vs4,f5,u1,u2,u3,u4,u5,P4,N4,C4,q4,a4,_,_⟩:=P2.putF a2 q2 hp2
   simp -implicitDefEqProofs (disch:=first|exact dz _|fail) only [↓qJ,qK,qL,qA,qB,qC,qD,qE,↓reduceIte,qG,qH,qI,gt,hq,y1,y3,y4,ne2,ni2,nd2,ho,p1,p2,p8,k1,k2,k4,d1]
   refine trCall_of (sCanon _ _) ?_
   rintro v h3 ⟨rfl,rfl⟩
   simp -implicitDefEqProofs (disch:=first|exact dz _|fail) only [↓qJ,qK,qL,qA,qB,qC,qD,qE,↓reduceIte,qG,qH,qI,ne2,ni2,nd2,gt,hq,u1,u3,u4,sb,sameO_some]
   subst hQ
   exact ⟨γ,P4,(N1.trans N2).trans N4⟩
  ·rw [if_neg hk1] at hp
   have d1:decide (ki=1)=false:=decide_eq_false hk1
   obtain ⟨id2,g2,o2,vs2,f3,y1,y2,y3,y4,y5,P2,N2,C2,q2,a2,_,_⟩:=P1.putF a1 q1 hp
   have ne2:t≠id2:=fun e=>by rw [←e] at y5;rw [kn] at y5;cases y5
   have ni2:i≠id2:=fun e=>by rw [←e] at y5;have:=q1.kid.symm.trans y5;cases this
   have nd2:γ.d≠id2:=fun e=>by rw [←e] at y5;have:=P1.kd.symm.trans y5;cases this
   obtain ⟨idp,gp,offp,vsp,rop,row,p1,p2,p3,p4,p5,p6,p7,svp,rvp,cvp,rfl,s1p,s2p,s3p⟩:=(P1.prog.keep C2 Tag.noConfusion).f.ix hF
   have p8:vsp[offp+1]?=some svp:=row_at p6 (by omega)
   obtain ⟨idk,gk,ok,vsk,rok,k1,k2,k3,k4⟩:=SlRd.ixI (enc:=fun n=>.int .i64 n) s1p.now hkind
   simp -implicitDefEqProofs (disch:=first|exact dz _|fail) only [↓qJ,qK,qL,qA,qB,qC,qD,qE,↓reduceIte,qG,qH,qI,gt,hq,y1,y3,y4,ne2,ni2,nd2,ho,p1,p2,p8,k1,k2,k4,d1]
   subst hQ
   exact ⟨γ,P2,N1.trans N2⟩
 ·-- 2
  simp only [Int.reduceEq,if_false,if_true,isWhole,isFloat,isMem,isCall,isChan,Int.reduceLE,decide_true,decide_false,Bool.and_true,Bool.true_and,Bool.and_false,Bool.false_and,Bool.or_false,Bool.or_true,Bool.false_or,Bool.true_or,Bool.and_self,Bool.or_self,Bool.false_eq_true,Option.bind_eq_some_iff] at hp
  obtain ⟨w,hw,hp⟩:=hp
  obtain ⟨id1,g1,o1,vs1,x1a,x1b,x1c,x1d⟩:=q1.slots.ix (enc:=fun n=>.int .u64 n) hw
  obtain ⟨id2,g2,o2,vs2,y1,y2,y3,y4,P2,N2,_⟩:=P1.put a1 q1 hp
  simp -implicitDefEqProofs (disch:=first|exact dz _|fail) only [↓qJ,qK,qL,qA,qB,qC,qD,qE,↓reduceIte,qG,qH,qI,gt,hq,x1a,x1b,x1d,y1,y3,y4]
  subst hQ
  exact ⟨γ,P2,N1.trans N2⟩
 ·-- 24
  simp only [Int.reduceEq,if_false,if_true,isWhole,isFloat,isMem,isCall,isChan,Int.reduceLE,decide_true,decide_false,Bool.and_true,Bool.true_and,Bool.and_false,Bool.false_and,Bool.or_false,Bool.or_true,Bool.false_or,Bool.true_or,Bool.and_self,Bool.or_self,Bool.false_eq_true] at hp
  cases hp
  have cc:=((Chg.refl (·=.fr k j) h1 γ.K).set (i:=i) (fun _=>q1.kid) (.cells 0 false [.int .i64 f.fn,.int .i64 za,.int .u64 f.serial,sv,iv,lv,.int .i64 f.mode,.bool f.ending,vv]))
  obtain ⟨P2,N2⟩:=P1.setFr (f':={ f with pc:=za }) cc (fun t q=>.inl q) (fun j hj=>P1.k0 j hj) a1 ⟨sv,iv,lv,vv,la,q1.kid,q1.lt,AHeap.get_set_same _ _ _,q1.slots.keep cc Tag.noConfusion,q1.into.keep cc Tag.noConfusion,q1.lates.keep cc Tag.noConfusion,q1.args.mono fun _ _ _ _ _ q=>⟨q.1,q.2.keep cc Tag.noConfusion⟩,q1.saved.keep cc Tag.noConfusion⟩
  simp -implicitDefEqProofs (disch:=first|exact dz _|fail) only [↓qJ,qK,qL,qA,qB,qC,qD,qE,↓reduceIte,qG,qH,qI,gt,hq]
  subst hQ
  exact ⟨_,P2,N1.trans N2⟩
 ·-- 25
  simp only [Int.reduceEq,if_false,if_true,isWhole,isFloat,isMem,isCall,isChan,Int.reduceLE,decide_true,decide_false,Bool.and_true,Bool.true_and,Bool.and_false,Bool.false_and,Bool.or_false,Bool.or_true,Bool.false_or,Bool.true_or,Bool.and_self,Bool.or_self,Bool.false_eq_true,Option.map_eq_some_iff] at hp
  obtain ⟨w,hw,hp⟩:=hp
  obtain ⟨id1,g1,o1,vs1,x1a,x1b,x1c,x1d⟩:=q1.slots.ix (enc:=fun n=>.int .u64 n) hw
  by_cases c:w=0
  ·rw [if_pos c] at hp
   have d1:decide (w=0)=true:=decide_eq_true c
   subst hp
   have cc:=((Chg.refl (·=.fr k j) h1 γ.K).set (i:=i) (fun _=>q1.kid) (.cells 0 false [.int .i64 f.fn,.int .i64 zzb,.int .u64 f.serial,sv,iv,lv,.int .i64 f.mode,.bool f.ending,vv]))
   obtain ⟨P2,N2⟩:=P1.setFr (f':={ f with pc:=zzb }) cc (fun t q=>.inl q) (fun j hj=>P1.k0 j hj) a1 ⟨sv,iv,lv,vv,la,q1.kid,q1.lt,AHeap.get_set_same _ _ _,q1.slots.keep cc Tag.noConfusion,q1.into.keep cc Tag.noConfusion,q1.lates.keep cc Tag.noConfusion,q1.args.mono fun _ _ _ _ _ q=>⟨q.1,q.2.keep cc Tag.noConfusion⟩,q1.saved.keep cc Tag.noConfusion⟩
   simp -implicitDefEqProofs (disch:=first|exact dz _|fail) only [↓qJ,qK,qL,qA,qB,qC,qD,qE,↓reduceIte,qG,qH,qI,gt,hq,x1a,x1b,x1d,d1]
   subst hQ
   exact ⟨_,P2,N1.trans N2⟩
  ·rw [if_neg c] at hp
   have d1:decide (w=0)=false:=decide_eq_false c
   subst hp
   simp -implicitDefEqProofs (disch:=first|exact dz _|fail) only [↓qJ,qK,qL,qA,qB,qC,qD,qE,↓reduceIte,qG,qH,qI,gt,hq,x1a,x1b,x1d,d1]
   subst hQ
   exact ⟨γ,P1,N1⟩
 ·-- 46
  simp only [Int.reduceEq,if_false,if_true,isWhole,isFloat,isMem,isCall,isChan,Int.reduceLE,decide_true,decide_false,Bool.and_true,Bool.true_and,Bool.and_false,Bool.false_and,Bool.or_false,Bool.or_true,Bool.false_or,Bool.true_or,Bool.and_self,Bool.or_self,Bool.false_eq_true,Option.bind_eq_some_iff] at hp
  obtain ⟨w,hw,hp⟩:=hp
  obtain ⟨id1,g1,o1,vs1,x1a,x1b,x1c,x1d⟩:=q1.slots.ix (enc:=fun n=>.int .u64 n) hw
  simp -implicitDefEqProofs (disch:=first|exact dz _|fail) only [↓qJ,qK,qL,qA,qB,qC,qD,qE,↓reduceIte,qG,qH,qI,gt,hq,x1a,x1b,x1d]
  refine callI_of (sleep P1 hp a.hr a.hx) ?_
  rintro v h3 ⟨γ',P3,N3⟩
  simp -implicitDefEqProofs (disch:=first|exact dz _|fail) only [↓qJ,qK,qL,qA,qB,qC,qD,qE,↓reduceIte,qG,qH,qI]
  subst hQ
  exact ⟨γ',P3,N1.trans N3⟩
 ·-- 47
  simp only [Int.reduceEq,if_false,if_true,isWhole,isFloat,isMem,isCall,isChan,Int.reduceLE,decide_true,decide_false,Bool.and_true,Bool.true_and,Bool.and_false,Bool.false_and,Bool.or_false,Bool.or_true,Bool.false_or,Bool.true_or,Bool.and_self,Bool.or_self,Bool.false_eq_true] at hp
  cases hp
  simp -implicitDefEqProofs (disch:=first|exact dz _|fail) only [↓qJ,qK,qL,qA,qB,qC,qD,qE,↓reduceIte,qG,qH,qI,gt,hq]
  subst hQ
  exact ⟨γ,P1,N1⟩
 ·-- 48
  simp only [Int.reduceEq,if_false,if_true,isWhole,isFloat,isMem,isCall,isChan,Int.reduceLE,decide_true,decide_false,Bool.and_true,Bool.true_and,Bool.and_false,Bool.false_and,Bool.or_false,Bool.or_true,Bool.false_or,Bool.true_or,Bool.and_self,Bool.or_self,Bool.false_eq_true,Option.bind_eq_some_iff] at hp
  obtain ⟨ki,hki,w,hw,hp⟩:=hp
  have hki':∃ F,at? R.p.funcs f.fn=some F∧at? F.slots za=some ki:=by simpa only [Run.kindOf,Option.bind_eq_some_iff] using hki
  obtain ⟨F,hF,hkind⟩:=hki'
  obtain ⟨idp,gp,offp,vsp,rop,row,p1,p2,p3,p4,p5,p6,p7,svp,rvp,cvp,rfl,s1p,s2p,s3p⟩:=P1.prog.f.ix hF
  have p8:vsp[offp+1]?=some svp:=row_at p6 (by omega)
  obtain ⟨idk,gk,ok,vsk,rok,k1,k2,k3,k4⟩:=SlRd.ixI (enc:=fun n=>.int .i64 n) s1p.now hkind
  obtain ⟨id1,g1,o1,vs1,x1a,x1b,x1c,x1d⟩:=q1.slots.ix (enc:=fun n=>.int .u64 n) hw
  by_cases c:ki=1
  ·rw [if_pos c] at hp
   have d1:decide (ki=1)=true:=decide_eq_true c
   simp -implicitDefEqProofs (disch:=first|exact dz _|fail) only [↓qJ,qK,qL,qA,qB,qC,qD,qE,↓reduceIte,qG,qH,qI,gt,hq,x1a,x1b,x1d,ho,p1,p2,p8,k1,k2,k4,d1]
   refine callI_of (tell P1 hp) ?_
   rintro v h3 ⟨γ',P3,N3⟩
   simp -implicitDefEqProofs (disch:=first|exact dz _|fail) only [↓qJ,qK,qL,qA,qB,qC,qD,qE,↓reduceIte,qG,qH,qI]
   subst hQ
   exact ⟨γ',P3,N1.trans N3⟩
  ·rw [if_neg c] at hp
   have d1:decide (ki=1)=false:=decide_eq_false c
   simp -implicitDefEqProofs (disch:=first|exact dz _|fail) only [↓qJ,qK,qL,qA,qB,qC,qD,qE,↓reduceIte,qG,qH,qI,gt,hq,x1a,x1b,x1d,ho,p1,p2,p8,k1,k2,k4,d1]
   refine callI_of (tell P1 hp) ?_
   rintro v h3 ⟨γ',P3,N3⟩
   simp -implicitDefEqProofs (disch:=first|exact dz _|fail) only [↓qJ,qK,qL,qA,qB,qC,qD,qE,↓reduceIte,qG,qH,qI]
   subst hQ
   exact ⟨γ',P3,N1.trans N3⟩
 ·-- 49
  simp only [Int.reduceEq,if_false,if_true,isWhole,isFloat,isMem,isCall,isChan,Int.reduceLE,decide_true,decide_false,Bool.and_true,Bool.true_and,Bool.and_false,Bool.false_and,Bool.or_false,Bool.or_true,Bool.false_or,Bool.true_or,Bool.and_self,Bool.or_self,Bool.false_eq_true] at hp
  obtain ⟨id2,g2,o2,vs2,y1,y2,y3,y4,P2,N2,_⟩:=P1.put a1 q1 hp
  unfold u64 at P2 N2
  simp -implicitDefEqProofs (disch:=first|exact dz _|fail) only [↓qJ,qK,qL,qA,qB,qC,qD,qE,↓reduceIte,qG,qH,qI,gt,hq,y1,y3,y4]
  subst hQ
  exact ⟨γ,P2,N1.trans N2⟩
 ·-- 50
  simp only [Int.reduceEq,if_false,if_true,isWhole,isFloat,isMem,isCall,isChan,Int.reduceLE,decide_true,decide_false,Bool.and_true,Bool.true_and,Bool.and_false,Bool.false_and,Bool.or_false,Bool.or_true,Bool.false_or,Bool.true_or,Bool.and_self,Bool.or_self,Bool.false_eq_true,Option.bind_eq_some_iff] at hp
  obtain ⟨w,hw,_,hlim,o,ho',hp⟩:=hp
  have hlim:=lim_lt hlim
  obtain ⟨id1,g1,o1,vs1,x1a,x1b,x1c,x1d⟩:=q1.slots.ix (enc:=fun n=>.int .u64 n) hw
  split at ho'
  ·rename_i hwok
   simp only [wok,Bool.and_eq_true,decide_eq_true_eq] at hwok
   simp -implicitDefEqProofs (disch:=first|exact dz _|fail) only [↓qJ,qK,qL,qA,qB,qC,qD,qE,↓reduceIte,qG,qH,qI,gt,hq,x1a,x1b,x1d]
   refine callI_of (refers P1 hwok.1 a.hr a.hx hlim ho') ?_
   rintro v h3 ⟨rfl,⟨rfl,rfl⟩ | ⟨n,m,fn,ni,svn,ivn,lvn,vvn,lan,idr,gr,offr,vsr,w0,rfl,hfn,hin,qn,hm0,rfl,e1,e2,e3,e4,e5,e6⟩⟩
   ·simp only at hp
    simp -implicitDefEqProofs (disch:=first|exact dz _|fail) only [↓qJ,qK,qL,qA,qB,qC,qD,qE,↓reduceIte,qG,qH,qI,gt,hq]
    refine callI_of (panic P1 hp) ?_
    rintro v h3 ⟨γ',P3,N3⟩
    simp -implicitDefEqProofs (disch:=first|exact dz _|fail) only [↓qJ,qK,qL,qA,qB,qC,qD,qE,↓reduceIte,qG,qH,qI]
    subst hQ
    exact ⟨γ',P3,N1.trans N3⟩
   ·simp only [hfn,Option.bind_some,hm0] at hp
    obtain ⟨id2,g2,o2,vs2,y1,y2,y3,y4,P2,N2,_⟩:=P1.put a1 q1 hp
    simp -implicitDefEqProofs (disch:=first|exact dz _|fail) only [↓qJ,qK,qL,qA,qB,qC,qD,qE,↓reduceIte,qG,qH,qI,gt,hq,y1,y3,y4,e2,e4]
    subst hQ
    exact ⟨γ,P2,N1.trans N2⟩
  ·cases ho'
 ·-- 51
  simp only [Int.reduceEq,if_false,if_true,isWhole,isFloat,isMem,isCall,isChan,Int.reduceLE,decide_true,decide_false,Bool.and_true,Bool.true_and,Bool.and_false,Bool.false_and,Bool.or_false,Bool.or_true,Bool.false_or,Bool.true_or,Bool.and_self,Bool.or_self,Bool.false_eq_true,Option.bind_eq_some_iff] at hp
  obtain ⟨w,hw,_,hlim,o,ho',hp⟩:=hp
  have hlim:=lim_lt hlim
  obtain ⟨id1,g1,o1,vs1,x1a,x1b,x1c,x1d⟩:=q1.slots.ix (enc:=fun n=>.int .u64 n) hw
  split at ho'
  ·rename_i hwok
   simp only [wok,Bool.and_eq_true,decide_eq_true_eq] at hwok
   simp -implicitDefEqProofs (disch:=first|exact dz _|fail) only [↓qJ,qK,qL,qA,qB,qC,qD,qE,↓reduceIte,qG,qH,qI,gt,hq,x1a,x1b,x1d]
   refine callI_of (refers P1 hwok.1 a.hr a.hx hlim ho') ?_
   rintro v h3 ⟨rfl,⟨rfl,rfl⟩ | ⟨n,m,fn,ni,svn,ivn,lvn,vvn,lan,idr,gr,offr,vsr,w0,rfl,hfn,hin,qn,hm0,rfl,e1,e2,e3,e4,e5,e6⟩⟩
   ·simp only at hp
    simp -implicitDefEqProofs (disch:=first|exact dz _|fail) only [↓qJ,qK,qL,qA,qB,qC,qD,qE,↓reduceIte,qG,qH,qI,gt,hq]
    refine callI_of (panic P1 hp) ?_
    rintro v h3 ⟨γ',P3,N3⟩
    simp -implicitDefEqProofs (disch:=first|exact dz _|fail) only [↓qJ,qK,qL,qA,qB,qC,qD,qE,↓reduceIte,qG,qH,qI]
    subst hQ
    exact ⟨γ',P3,N1.trans N3⟩
   ·simp only [Option.bind_eq_some_iff] at hp
    obtain ⟨v,hv,hp⟩:=hp
    obtain ⟨id2,g2,o2,vs2,x2a,x2b,x2c,x2d⟩:=q1.slots.ix (enc:=fun n=>.int .u64 n) hv
    have hp2:R.put k n m v=some (R.setR k (r.setF n { fn with slots:=fn.slots.set m v })):=by
     have hml:=(List.getElem?_eq_some_iff.1 hm0).1
     unfold Run.put Run.fr? set?
     rw [a.hr]
     simp only [Option.bind_some,hfn]
     rw [if_pos ⟨by omega,by omega⟩,Int.toNat_natCast]
     show some (R.setF k n _)=_
     rw [Run.setF_eq a.hr]
    rw [hp2] at hp
    cases hp
    obtain ⟨cc,qq⟩:=e6 v
    obtain ⟨P2,N2⟩:=P1.setFr cc (fun t q=>.inr (.inl q)) (fun j hj=>P1.k0 j hj) ⟨a.hr,hfn,a.hx,hin⟩ ⟨_,_,_,_,_,qq⟩
    simp -implicitDefEqProofs (disch:=first|exact dz _|fail) only [↓qJ,qK,qL,qA,qB,qC,qD,qE,↓reduceIte,qG,qH,qI,gt,hq,e2,e4,e5,x2a,x2b,x2d]
    subst hQ
    exact ⟨_,P2,N1.trans N2⟩
  ·cases ho'
 ·-- 52
  simp only [Int.reduceEq,if_false,if_true,isWhole,isFloat,isMem,isCall,isChan,Int.reduceLE,decide_true,decide_false,Bool.and_true,Bool.true_and,Bool.and_false,Bool.false_and,Bool.or_false,Bool.or_true,Bool.false_or,Bool.true_or,Bool.and_self,Bool.or_self,Bool.false_eq_true,Option.bind_eq_some_iff] at hp
  obtain ⟨w,hw,hp⟩:=hp
  obtain ⟨id1,g1,o1,vs1,x1a,x1b,x1c,x1d⟩:=q1.slots.ix (enc:=fun n=>.int .u64 n) hw
  simp -implicitDefEqProofs (disch:=first|exact dz _|fail) only [↓qJ,qK,qL,qA,qB,qC,qD,qE,↓reduceIte,qG,qH,qI,gt,hq,x1a,x1b,x1d]
  refine callI_of (tell P1 hp) ?_
  rintro v h3 ⟨γ',P3,N3⟩
  simp -implicitDefEqProofs (disch:=first|exact dz _|fail) only [↓qJ,qK,qL,qA,qB,qC,qD,qE,↓reduceIte,qG,qH,qI]
  subst hQ
  exact ⟨γ',P3,N1.trans N3⟩
end
end Go.Proofs.Ytnbnpjhlflcjeaa.Id
namespace Go.Proofs.Ytnbnpjhlflcjeaa.Id
open Go Go.AM Go.Proofs.Ytnbnpjhlflcjeaa.AmGF
open Nat renaming reduceAdd → qA,reduceLeDiff → qB,reduceEqDiff → qC,reduceLT → qE
open Int renaming reduceToNat → qD,reduceEq → qG,reduceLT → qH,reduceLE → qI
section
variable {h0 h h':AHeap} {K:Nat→Tag} {γ:GI} {R:Run}
set_option maxHeartbeats 40000000 in
theorem exec2 (P:RunP h γ R) {k j i:Nat} {r:Routine} {f:Frame} {x:Nat×List Nat} (a:At h γ R k j r f x i) {sv iv lv vv fv:AVal} {la:List (Int×AVal)} (s:RtV h γ.K k x.1 x.2 r fv) (q:FrV h γ.K k j i f sv iv lv vv la) {z:PIns} {zv:AVal} (hz:Ro h γ.K fun h=>SlRd h 1 encK zv z.list) {choice:Int} {R':Run} (hp:R.execute k j z choice=some R') (hm:z.op=3∨z.op=4∨z.op=5∨z.op=6∨z.op=7∨z.op=8∨z.op=9∨z.op=10∨z.op=11∨z.op=12∨z.op=13∨z.op=14∨z.op=23) :
  CallP AP 39 [.ptr γ.d 0 0,.ptr x.1 0 0,.ptr i 0 0,.agg (rowI z zv),.int .u64 choice] h fun v h'=>∃ γ',RunP h' γ' R'∧Nxt h h' γ γ':=by
 refine callP (rfl:Tr.get AP 39=some A39) ?_
 generalize hQ:(fun (r:AVal) (h':AHeap)=>_)=Q
 have c1:=(Chg.refl (fun _=>False) h γ.K).push (.cells 0 false (rowI z zv))
 have N1:=Nxt.tmp c1
 have P1:=P.tmp c1
 have q1:=q.keep c1 (fun q=>q) (fun q=>q) (fun q=>q) (fun q=>q)
 have r1:=s.keep c1 (fun q=>q) (fun q=>q) (fun q=>q) (fun k=>⟨fun q=>q,fun q=>q,fun q=>q⟩)
 have z1:=hz.keep c1 (fun q=>q)
 have ho:=P1.obj
 have hlt:=P1.ltd
 have kn:=P.kn
 have gt:(h.push (.cells 0 false (rowI z zv))).get h.n=.cells 0 false (rowI z zv):=AHeap.get_push_same _ _
 have lt:h.n<(h.push (.cells 0 false (rowI z zv))).n:=by simp
 have zc:=hz.now.cells
 have zb:=hz.now.beq
 simp -implicitDefEqProofs (disch:=first|exact dz _|fail) only [↓qJ,qK,qL,qA,qB,qC,qD,qE,↓reduceIte,qG,qH,qI,rowI,zc.2]
 generalize (h.push (.cells 0 false (rowI z zv)))=h1 at *
 generalize h.n=t at *
 have a1:At h1 γ R k j r f x i:=⟨a.hr,a.hf,a.hx,a.hi⟩
 have hq:=q1.obj
 have hqlt:=q1.lt
 have hro:=r1.obj
 have hrlt:=r1.lt
 have sb:=q1.slots.beq
 have ne:t≠i:=fun e=>by have:=q1.kid;rw [←e,kn] at this;cases this
 obtain ⟨op,za,zzb,zzc,imm,list⟩:=z
 simp only [rowI] at gt hp hm z1 ⊢
 unfold Run.execute at hp
 rw [a.hr] at hp
 simp only [Option.bind_some,a.hf] at hp
 rcases hm with rfl | rfl | rfl | rfl | rfl | rfl | rfl | rfl | rfl | rfl | rfl | rfl | rfl
 ·-- 3
  simp only [Int.reduceEq,if_false,if_true,isWhole,isFloat,isMem,isCall,isChan,Int.reduceLE,decide_true,decide_false,Bool.and_true,Bool.true_and,Bool.and_false,Bool.false_and,Bool.or_false,Bool.or_true,Bool.false_or,Bool.true_or,Bool.and_self,Bool.or_self,Bool.false_eq_true,Option.bind_eq_some_iff] at hp
  obtain ⟨wx,hwx,wy,hwy,o,ho',hp⟩:=hp
  obtain ⟨id1,g1,o1,vs1,x1a,x1b,x1c,x1d⟩:=q1.slots.ix (enc:=fun n=>.int .u64 n) hwx
  obtain ⟨id2,g2,o2,vs2,x2a,x2b,x2c,x2d⟩:=q1.slots.ix (enc:=fun n=>.int .u64 n) hwy
  simp -implicitDefEqProofs (disch:=first|exact dz _|fail) only [↓qJ,qK,qL,qA,qB,qC,qD,qE,↓reduceIte,qG,qH,qI,gt,hq,x1a,x1b,x1d,x2a,x2b,x2d]
  refine trCall_of (whole _ _ _ _ rfl ho') ?_
  rintro v h3 ⟨rfl,rfl⟩
  cases o with
  | none =>
   simp -implicitDefEqProofs (disch:=first|exact dz _|fail) only [↓qJ,qK,qL,qA,qB,qC,qD,qE,↓reduceIte,qG,qH,qI,gt,hq,Option.getD,Option.isSome,x1a,x1b,x1d,x2a,x2b,x2d]
   refine callI_of (panic P1 hp) ?_
   rintro v h3 ⟨γ',P3,N3⟩
   simp -implicitDefEqProofs (disch:=first|exact dz _|fail) only [↓qJ,qK,qL,qA,qB,qC,qD,qE,↓reduceIte,qG,qH,qI]
   subst hQ
   exact ⟨γ',P3,N1.trans N3⟩
  | some w =>
   obtain ⟨id5,g5,o5,vs5,y1,y2,y3,y4,P2,N2,_⟩:=P1.put a1 q1 hp
   simp -implicitDefEqProofs (disch:=first|exact dz _|fail) only [↓qJ,qK,qL,qA,qB,qC,qD,qE,↓reduceIte,qG,qH,qI,gt,hq,Option.getD,Option.isSome,y1,y3,y4,x1a,x1b,x1d,x2a,x2b,x2d]
   subst hQ
   exact ⟨γ,P2,N1.trans N2⟩
 ·-- 4
  simp only [Int.reduceEq,if_false,if_true,isWhole,isFloat,isMem,isCall,isChan,Int.reduceLE,decide_true,decide_false,Bool.and_true,Bool.true_and,Bool.and_false,Bool.false_and,Bool.or_false,Bool.or_true,Bool.false_or,Bool.true_or,Bool.and_self,Bool.or_self,Bool.false_eq_true,Option.bind_eq_some_iff] at hp
  obtain ⟨wx,hwx,wy,hwy,o,ho',hp⟩:=hp
  obtain ⟨id1,g1,o1,vs1,x1a,x1b,x1c,x1d⟩:=q1.slots.ix (enc:=fun n=>.int .u64 n) hwx
  obtain ⟨id2,g2,o2,vs2,x2a,x2b,x2c,x2d⟩:=q1.slots.ix (enc:=fun n=>.int .u64 n) hwy
  simp -implicitDefEqProofs (disch:=first|exact dz _|fail) only [↓qJ,qK,qL,qA,qB,qC,qD,qE,↓reduceIte,qG,qH,qI,gt,hq,x1a,x1b,x1d,x2a,x2b,x2d]
  refine trCall_of (whole _ _ _ _ rfl ho') ?_
  rintro v h3 ⟨rfl,rfl⟩
  cases o with
  | none =>
   simp -implicitDefEqProofs (disch:=first|exact dz _|fail) only [↓qJ,qK,qL,qA,qB,qC,qD,qE,↓reduceIte,qG,qH,qI,gt,hq,Option.getD,Option.isSome,x1a,x1b,x1d,x2a,x2b,x2d]
   refine callI_of (panic P1 hp) ?_
   rintro v h3 ⟨γ',P3,N3⟩
   simp -implicitDefEqProofs (disch:=first|exact dz _|fail) only [↓qJ,qK,qL,qA,qB,qC,qD,qE,↓reduceIte,qG,qH,qI]
   subst hQ
   exact ⟨γ',P3,N1.trans N3⟩
  | some w =>
   obtain ⟨id5,g5,o5,vs5,y1,y2,y3,y4,P2,N2,_⟩:=P1.put a1 q1 hp
   simp -implicitDefEqProofs (disch:=first|exact dz _|fail) only [↓qJ,qK,qL,qA,qB,qC,qD,qE,↓reduceIte,qG,qH,qI,gt,hq,Option.getD,Option.isSome,y1,y3,y4,x1a,x1b,x1d,x2a,x2b,x2d]
   subst hQ
   exact ⟨γ,P2,N1.trans N2⟩
 ·-- 5
  simp only [Int.reduceEq,if_false,if_true,isWhole,isFloat,isMem,isCall,isChan,Int.reduceLE,decide_true,decide_false,Bool.and_true,Bool.true_and,Bool.and_false,Bool.false_and,Bool.or_false,Bool.or_true,Bool.false_or,Bool.true_or,Bool.and_self,Bool.or_self,Bool.false_eq_true,Option.bind_eq_some_iff] at hp
  obtain ⟨wx,hwx,wy,hwy,o,ho',hp⟩:=hp
  obtain ⟨id1,g1,o1,vs1,x1a,x1b,x1c,x1d⟩:=q1.slots.ix (enc:=fun n=>.int .u64 n) hwx
  obtain ⟨id2,g2,o2,vs2,x2a,x2b,x2c,x2d⟩:=q1.slots.ix (enc:=fun n=>.int .u64 n) hwy
  simp -implicitDefEqProofs (disch:=first|exact dz _|fail) only [↓qJ,qK,qL,qA,qB,qC,qD,qE,↓reduceIte,qG,qH,qI,gt,hq,x1a,x1b,x1d,x2a,x2b,x2d]
  refine trCall_of (whole _ _ _ _ rfl ho') ?_
  rintro v h3 ⟨rfl,rfl⟩
  cases o with
  | none =>
   simp -implicitDefEqProofs (disch:=first|exact dz _|fail) only [↓qJ,qK,qL,qA,qB,qC,qD,qE,↓reduceIte,qG,qH,qI,gt,hq,Option.getD,Option.isSome,x1a,x1b,x1d,x2a,x2b,x2d]
   refine callI_of (panic P1 hp) ?_
   rintro v h3 ⟨γ',P3,N3⟩
   simp -implicitDefEqProofs (disch:=first|exact dz _|fail) only [↓qJ,qK,qL,qA,qB,qC,qD,qE,↓reduceIte,qG,qH,qI]
   subst hQ
   exact ⟨γ',P3,N1.trans N3⟩
  | some w =>
   obtain ⟨id5,g5,o5,vs5,y1,y2,y3,y4,P2,N2,_⟩:=P1.put a1 q1 hp
   simp -implicitDefEqProofs (disch:=first|exact dz _|fail) only [↓qJ,qK,qL,qA,qB,qC,qD,qE,↓reduceIte,qG,qH,qI,gt,hq,Option.getD,Option.isSome,y1,y3,y4,x1a,x1b,x1d,x2a,x2b,x2d]
   subst hQ
   exact ⟨γ,P2,N1.trans N2⟩
 ·-- 6
  simp only [Int.reduceEq,if_false,if_true,isWhole,isFloat,isMem,isCall,isChan,Int.reduceLE,decide_true,decide_false,Bool.and_true,Bool.true_and,Bool.and_false,Bool.false_and,Bool.or_false,Bool.or_true,Bool.false_or,Bool.true_or,Bool.and_self,Bool.or_self,Bool.false_eq_true,Option.bind_eq_some_iff] at hp
  obtain ⟨wx,hwx,wy,hwy,o,ho',hp⟩:=hp
  obtain ⟨id1,g1,o1,vs1,x1a,x1b,x1c,x1d⟩:=q1.slots.ix (enc:=fun n=>.int .u64 n) hwx
  obtain ⟨id2,g2,o2,vs2,x2a,x2b,x2c,x2d⟩:=q1.slots.ix (enc:=fun n=>.int .u64 n) hwy
  simp -implicitDefEqProofs (disch:=first|exact dz _|fail) only [↓qJ,qK,qL,qA,qB,qC,qD,qE,↓reduceIte,qG,qH,qI,gt,hq,x1a,x1b,x1d,x2a,x2b,x2d]
  refine trCall_of (whole _ _ _ _ rfl ho') ?_
  rintro v h3 ⟨rfl,rfl⟩
  cases o with
  | none =>
   simp -implicitDefEqProofs (disch:=first|exact dz _|fail) only [↓qJ,qK,qL,qA,qB,qC,qD,qE,↓reduceIte,qG,qH,qI,gt,hq,Option.getD,Option.isSome,x1a,x1b,x1d,x2a,x2b,x2d]
   refine callI_of (panic P1 hp) ?_
   rintro v h3 ⟨γ',P3,N3⟩
   simp -implicitDefEqProofs (disch:=first|exact dz _|fail) only [↓qJ,qK,qL,qA,qB,qC,qD,qE,↓reduceIte,qG,qH,qI]
   subst hQ
   exact ⟨γ',P3,N1.trans N3⟩
  | some w =>
   obtain ⟨id5,g5,o5,vs5,y1,y2,y3,y4,P2,N2,_⟩:=P1.put a1 q1 hp
   simp -implicitDefEqProofs (disch:=first|exact dz _|fail) only [↓qJ,qK,qL,qA,qB,qC,qD,qE,↓reduceIte,qG,qH,qI,gt,hq,Option.getD,Option.isSome,y1,y3,y4,x1a,x1b,x1d,x2a,x2b,x2d]
   subst hQ
   exact ⟨γ,P2,N1.trans N2⟩
 ·-- 7
  simp only [Int.reduceEq,if_false,if_true,isWhole,isFloat,isMem,isCall,isChan,Int.reduceLE,decide_true,decide_false,Bool.and_true,Bool.true_and,Bool.and_false,Bool.false_and,Bool.or_false,Bool.or_true,Bool.false_or,Bool.true_or,Bool.and_self,Bool.or_self,Bool.false_eq_true,Option.bind_eq_some_iff] at hp
  obtain ⟨wx,hwx,wy,hwy,o,ho',hp⟩:=hp
  obtain ⟨id1,g1,o1,vs1,x1a,x1b,x1c,x1d⟩:=q1.slots.ix (enc:=fun n=>.int .u64 n) hwx
  obtain ⟨id2,g2,o2,vs2,x2a,x2b,x2c,x2d⟩:=q1.slots.ix (enc:=fun n=>.int .u64 n) hwy
  simp -implicitDefEqProofs (disch:=first|exact dz _|fail) only [↓qJ,qK,qL,qA,qB,qC,qD,qE,↓reduceIte,qG,qH,qI,gt,hq,x1a,x1b,x1d,x2a,x2b,x2d]
  refine trCall_of (whole _ _ _ _ rfl ho') ?_
  rintro v h3 ⟨rfl,rfl⟩
  cases o with
  | none =>
   simp -implicitDefEqProofs (disch:=first|exact dz _|fail) only [↓qJ,qK,qL,qA,qB,qC,qD,qE,↓reduceIte,qG,qH,qI,gt,hq,Option.getD,Option.isSome,x1a,x1b,x1d,x2a,x2b,x2d]
   refine callI_of (panic P1 hp) ?_
   rintro v h3 ⟨γ',P3,N3⟩
   simp -implicitDefEqProofs (disch:=first|exact dz _|fail) only [↓qJ,qK,qL,qA,qB,qC,qD,qE,↓reduceIte,qG,qH,qI]
   subst hQ
   exact ⟨γ',P3,N1.trans N3⟩
  | some w =>
   obtain ⟨id5,g5,o5,vs5,y1,y2,y3,y4,P2,N2,_⟩:=P1.put a1 q1 hp
   simp -implicitDefEqProofs (disch:=first|exact dz _|fail) only [↓qJ,qK,qL,qA,qB,qC,qD,qE,↓reduceIte,qG,qH,qI,gt,hq,Option.getD,Option.isSome,y1,y3,y4,x1a,x1b,x1d,x2a,x2b,x2d]
   subst hQ
   exact ⟨γ,P2,N1.trans N2⟩
 ·-- 8
  simp only [Int.reduceEq,if_false,if_true,isWhole,isFloat,isMem,isCall,isChan,Int.reduceLE,decide_true,decide_false,Bool.and_true,Bool.true_and,Bool.and_false,Bool.false_and,Bool.or_false,Bool.or_true,Bool.false_or,Bool.true_or,Bool.and_self,Bool.or_self,Bool.false_eq_true,Option.bind_eq_some_iff] at hp
  obtain ⟨wx,hwx,wy,hwy,o,ho',hp⟩:=hp
  obtain ⟨id1,g1,o1,vs1,x1a,x1b,x1c,x1d⟩:=q1.slots.ix (enc:=fun n=>.int .u64 n) hwx
  obtain ⟨id2,g2,o2,vs2,x2a,x2b,x2c,x2d⟩:=q1.slots.ix (enc:=fun n=>.int .u64 n) hwy
  simp -implicitDefEqProofs (disch:=first|exact dz _|fail) only [↓qJ,qK,qL,qA,qB,qC,qD,qE,↓reduceIte,qG,qH,qI,gt,hq,x1a,x1b,x1d,x2a,x2b,x2d]
  refine trCall_of (whole _ _ _ _ rfl ho') ?_
  rintro v h3 ⟨rfl,rfl⟩
  cases o with
  | none =>
   simp -implicitDefEqProofs (disch:=first|exact dz _|fail) only [↓qJ,qK,qL,qA,qB,qC,qD,qE,↓reduceIte,qG,qH,qI,gt,hq,Option.getD,Option.isSome,x1a,x1b,x1d,x2a,x2b,x2d]
   refine callI_of (panic P1 hp) ?_
   rintro v h3 ⟨γ',P3,N3⟩
   simp -implicitDefEqProofs (disch:=first|exact dz _|fail) only [↓qJ,qK,qL,qA,qB,qC,qD,qE,↓reduceIte,qG,qH,qI]
   subst hQ
   exact ⟨γ',P3,N1.trans N3⟩
  | some w =>
   obtain ⟨id5,g5,o5,vs5,y1,y2,y3,y4,P2,N2,_⟩:=P1.put a1 q1 hp
   simp -implicitDefEqProofs (disch:=first|exact dz _|fail) only [↓qJ,qK,qL,qA,qB,qC,qD,qE,↓reduceIte,qG,qH,qI,gt,hq,Option.getD,Option.isSome,y1,y3,y4,x1a,x1b,x1d,x2a,x2b,x2d]
   subst hQ
   exact ⟨γ,P2,N1.trans N2⟩
 ·-- 9
  simp only [Int.reduceEq,if_false,if_true,isWhole,isFloat,isMem,isCall,isChan,Int.reduceLE,decide_true,decide_false,Bool.and_true,Bool.true_and,Bool.and_false,Bool.false_and,Bool.or_false,Bool.or_true,Bool.false_or,Bool.true_or,Bool.and_self,Bool.or_self,Bool.false_eq_true,Option.bind_eq_some_iff] at hp
  obtain ⟨wx,hwx,wy,hwy,o,ho',hp⟩:=hp
  obtain ⟨id1,g1,o1,vs1,x1a,x1b,x1c,x1d⟩:=q1.slots.ix (enc:=fun n=>.int .u64 n) hwx
  obtain ⟨id2,g2,o2,vs2,x2a,x2b,x2c,x2d⟩:=q1.slots.ix (enc:=fun n=>.int .u64 n) hwy
  simp -implicitDefEqProofs (disch:=first|exact dz _|fail) only [↓qJ,qK,qL,qA,qB,qC,qD,qE,↓reduceIte,qG,qH,qI,gt,hq,x1a,x1b,x1d,x2a,x2b,x2d]
  refine trCall_of (whole _ _ _ _ rfl ho') ?_
  rintro v h3 ⟨rfl,rfl⟩
  cases o with
  | none =>
   simp -implicitDefEqProofs (disch:=first|exact dz _|fail) only [↓qJ,qK,qL,qA,qB,qC,qD,qE,↓reduceIte,qG,qH,qI,gt,hq,Option.getD,Option.isSome,x1a,x1b,x1d,x2a,x2b,x2d]
   refine callI_of (panic P1 hp) ?_
   rintro v h3 ⟨γ',P3,N3⟩
   simp -implicitDefEqProofs (disch:=first|exact dz _|fail) only [↓qJ,qK,qL,qA,qB,qC,qD,qE,↓reduceIte,qG,qH,qI]
   subst hQ
   exact ⟨γ',P3,N1.trans N3⟩
  | some w =>
   obtain ⟨id5,g5,o5,vs5,y1,y2,y3,y4,P2,N2,_⟩:=P1.put a1 q1 hp
   simp -implicitDefEqProofs (disch:=first|exact dz _|fail) only [↓qJ,qK,qL,qA,qB,qC,qD,qE,↓reduceIte,qG,qH,qI,gt,hq,Option.getD,Option.isSome,y1,y3,y4,x1a,x1b,x1d,x2a,x2b,x2d]
   subst hQ
   exact ⟨γ,P2,N1.trans N2⟩
 ·-- 10
  simp only [Int.reduceEq,if_false,if_true,isWhole,isFloat,isMem,isCall,isChan,Int.reduceLE,decide_true,decide_false,Bool.and_true,Bool.true_and,Bool.and_false,Bool.false_and,Bool.or_false,Bool.or_true,Bool.false_or,Bool.true_or,Bool.and_self,Bool.or_self,Bool.false_eq_true,Option.bind_eq_some_iff] at hp
  obtain ⟨wx,hwx,wy,hwy,o,ho',hp⟩:=hp
  obtain ⟨id1,g1,o1,vs1,x1a,x1b,x1c,x1d⟩:=q1.slots.ix (enc:=fun n=>.int .u64 n) hwx
  obtain ⟨id2,g2,o2,vs2,x2a,x2b,x2c,x2d⟩:=q1.slots.ix (enc:=fun n=>.int .u64 n) hwy
  simp -implicitDefEqProofs (disch:=first|exact dz _|fail) only [↓qJ,qK,qL,qA,qB,qC,qD,qE,↓reduceIte,qG,qH,qI,gt,hq,x1a,x1b,x1d,x2a,x2b,x2d]
  refine trCall_of (whole _ _ _ _ rfl ho') ?_
  rintro v h3 ⟨rfl,rfl⟩
  cases o with
  | none =>
   simp -implicitDefEqProofs (disch:=first|exact dz _|fail) only [↓qJ,qK,qL,qA,qB,qC,qD,qE,↓reduceIte,qG,qH,qI,gt,hq,Option.getD,Option.isSome,x1a,x1b,x1d,x2a,x2b,x2d]
   refine callI_of (panic P1 hp) ?_
   rintro v h3 ⟨γ',P3,N3⟩
   simp -implicitDefEqProofs (disch:=first|exact dz _|fail) only [↓qJ,qK,qL,qA,qB,qC,qD,qE,↓reduceIte,qG,qH,qI]
   subst hQ
   exact ⟨γ',P3,N1.trans N3⟩
  | some w =>
   obtain ⟨id5,g5,o5,vs5,y1,y2,y3,y4,P2,N2,_⟩:=P1.put a1 q1 hp
   simp -implicitDefEqProofs (disch:=first|exact dz _|fail) only [↓qJ,qK,qL,qA,qB,qC,qD,qE,↓reduceIte,qG,qH,qI,gt,hq,Option.getD,Option.isSome,y1,y3,y4,x1a,x1b,x1d,x2a,x2b,x2d]
   subst hQ
   exact ⟨γ,P2,N1.trans N2⟩
 ·-- 11
  simp only [Int.reduceEq,if_false,if_true,isWhole,isFloat,isMem,isCall,isChan,Int.reduceLE,decide_true,decide_false,Bool.and_true,Bool.true_and,Bool.and_false,Bool.false_and,Bool.or_false,Bool.or_true,Bool.false_or,Bool.true_or,Bool.and_self,Bool.or_self,Bool.false_eq_true,Option.bind_eq_some_iff] at hp
  obtain ⟨wx,hwx,wy,hwy,o,ho',hp⟩:=hp
  obtain ⟨id1,g1,o1,vs1,x1a,x1b,x1c,x1d⟩:=q1.slots.ix (enc:=fun n=>.int .u64 n) hwx
  obtain ⟨id2,g2,o2,vs2,x2a,x2b,x2c,x2d⟩:=q1.slots.ix (enc:=fun n=>.int .u64 n) hwy
  simp -implicitDefEqProofs (disch:=first|exact dz _|fail) only [↓qJ,qK,qL,qA,qB,qC,qD,qE,↓reduceIte,qG,qH,qI,gt,hq,x1a,x1b,x1d,x2a,x2b,x2d]
  refine trCall_of (whole _ _ _ _ rfl ho') ?_
  rintro v h3 ⟨rfl,rfl⟩
  cases o with
  | none =>
   simp -implicitDefEqProofs (disch:=first|exact dz _|fail) only [↓qJ,qK,qL,qA,qB,qC,qD,qE,↓reduceIte,qG,qH,qI,gt,hq,Option.getD,Option.isSome,x1a,x1b,x1d,x2a,x2b,x2d]
   refine callI_of (panic P1 hp) ?_
   rintro v h3 ⟨γ',P3,N3⟩
   simp -implicitDefEqProofs (disch:=first|exact dz _|fail) only [↓qJ,qK,qL,qA,qB,qC,qD,qE,↓reduceIte,qG,qH,qI]
   subst hQ
   exact ⟨γ',P3,N1.trans N3⟩
  | some w =>
   obtain ⟨id5,g5,o5,vs5,y1,y2,y3,y4,P2,N2,_⟩:=P1.put a1 q1 hp
   simp -implicitDefEqProofs (disch:=first|exact dz _|fail) only [↓qJ,qK,qL,qA,qB,qC,qD,qE,↓reduceIte,qG,qH,qI,gt,hq,Option.getD,Option.isSome,y1,y3,y4,x1a,x1b,x1d,x2a,x2b,x2d]
   subst hQ
   exact ⟨γ,P2,N1.trans N2⟩
 ·-- 12
  simp only [Int.reduceEq,if_false,if_true,isWhole,isFloat,isMem,isCall,isChan,Int.reduceLE,decide_true,decide_false,Bool.and_true,Bool.true_and,Bool.and_false,Bool.false_and,Bool.or_false,Bool.or_true,Bool.false_or,Bool.true_or,Bool.and_self,Bool.or_self,Bool.false_eq_true,Option.bind_eq_some_iff] at hp
  obtain ⟨wx,hwx,wy,hwy,o,ho',hp⟩:=hp
  obtain ⟨id1,g1,o1,vs1,x1a,x1b,x1c,x1d⟩:=q1.slots.ix (enc:=fun n=>.int .u64 n) hwx
  obtain ⟨id2,g2,o2,vs2,x2a,x2b,x2c,x2d⟩:=q1.slots.ix (enc:=fun n=>.int .u64 n) hwy
  simp -implicitDefEqProofs (disch:=first|exact dz _|fail) only [↓qJ,qK,qL,qA,qB,qC,qD,qE,↓reduceIte,qG,qH,qI,gt,hq,x1a,x1b,x1d,x2a,x2b,x2d]
  refine trCall_of (whole _ _ _ _ rfl ho') ?_
  rintro v h3 ⟨rfl,rfl⟩
  cases o with
  | none =>
   simp -implicitDefEqProofs (disch:=first|exact dz _|fail) only [↓qJ,qK,qL,qA,qB,qC,qD,qE,↓reduceIte,qG,qH,qI,gt,hq,Option.getD,Option.isSome,x1a,x1b,x1d,x2a,x2b,x2d]
   refine callI_of (panic P1 hp) ?_
   rintro v h3 ⟨γ',P3,N3⟩
   simp -implicitDefEqProofs (disch:=first|exact dz _|fail) only [↓qJ,qK,qL,qA,qB,qC,qD,qE,↓reduceIte,qG,qH,qI]
   subst hQ
   exact ⟨γ',P3,N1.trans N3⟩
  | some w =>
   obtain ⟨id5,g5,o5,vs5,y1,y2,y3,y4,P2,N2,_⟩:=P1.put a1 q1 hp
   simp -implicitDefEqProofs (disch:=first|exact dz _|fail) only [↓qJ,qK,qL,qA,qB,qC,qD,qE,↓reduceIte,qG,qH,qI,gt,hq,Option.getD,Option.isSome,y1,y3,y4,x1a,x1b,x1d,x2a,x2b,x2d]
   subst hQ
   exact ⟨γ,P2,N1.trans N2⟩
 ·-- 13
  simp only [Int.reduceEq,if_false,if_true,isWhole,isFloat,isMem,isCall,isChan,Int.reduceLE,decide_true,decide_false,Bool.and_true,Bool.true_and,Bool.and_false,Bool.false_and,Bool.or_false,Bool.or_true,Bool.false_or,Bool.true_or,Bool.and_self,Bool.or_self,Bool.false_eq_true,Option.bind_eq_some_iff] at hp
  obtain ⟨wx,hwx,wy,hwy,o,ho',hp⟩:=hp
  obtain ⟨id1,g1,o1,vs1,x1a,x1b,x1c,x1d⟩:=q1.slots.ix (enc:=fun n=>.int .u64 n) hwx
  obtain ⟨id2,g2,o2,vs2,x2a,x2b,x2c,x2d⟩:=q1.slots.ix (enc:=fun n=>.int .u64 n) hwy
  simp -implicitDefEqProofs (disch:=first|exact dz _|fail) only [↓qJ,qK,qL,qA,qB,qC,qD,qE,↓reduceIte,qG,qH,qI,gt,hq,x1a,x1b,x1d,x2a,x2b,x2d]
  refine trCall_of (whole _ _ _ _ rfl ho') ?_
  rintro v h3 ⟨rfl,rfl⟩
  cases o with
  | none =>
   simp -implicitDefEqProofs (disch:=first|exact dz _|fail) only [↓qJ,qK,qL,qA,qB,qC,qD,qE,↓reduceIte,qG,qH,qI,gt,hq,Option.getD,Option.isSome,x1a,x1b,x1d,x2a,x2b,x2d]
   refine callI_of (panic P1 hp) ?_
   rintro v h3 ⟨γ',P3,N3⟩
   simp -implicitDefEqProofs (disch:=first|exact dz _|fail) only [↓qJ,qK,qL,qA,qB,qC,qD,qE,↓reduceIte,qG,qH,qI]
   subst hQ
   exact ⟨γ',P3,N1.trans N3⟩
  | some w =>
   obtain ⟨id5,g5,o5,vs5,y1,y2,y3,y4,P2,N2,_⟩:=P1.put a1 q1 hp
   simp -implicitDefEqProofs (disch:=first|exact dz _|fail) only [↓qJ,qK,qL,qA,qB,qC,qD,qE,↓reduceIte,qG,qH,qI,gt,hq,Option.getD,Option.isSome,y1,y3,y4,x1a,x1b,x1d,x2a,x2b,x2d]
   subst hQ
   exact ⟨γ,P2,N1.trans N2⟩
 ·-- 14
  simp only [Int.reduceEq,if_false,if_true,isWhole,isFloat,isMem,isCall,isChan,Int.reduceLE,decide_true,decide_false,Bool.and_true,Bool.true_and,Bool.and_false,Bool.false_and,Bool.or_false,Bool.or_true,Bool.false_or,Bool.true_or,Bool.and_self,Bool.or_self,Bool.false_eq_true,Option.bind_eq_some_iff] at hp
  obtain ⟨wx,hwx,wy,hwy,o,ho',hp⟩:=hp
  obtain ⟨id1,g1,o1,vs1,x1a,x1b,x1c,x1d⟩:=q1.slots.ix (enc:=fun n=>.int .u64 n) hwx
  obtain ⟨id2,g2,o2,vs2,x2a,x2b,x2c,x2d⟩:=q1.slots.ix (enc:=fun n=>.int .u64 n) hwy
  simp -implicitDefEqProofs (disch:=first|exact dz _|fail) only [↓qJ,qK,qL,qA,qB,qC,qD,qE,↓reduceIte,qG,qH,qI,gt,hq,x1a,x1b,x1d,x2a,x2b,x2d]
  refine trCall_of (whole _ _ _ _ rfl ho') ?_
  rintro v h3 ⟨rfl,rfl⟩
  cases o with
  | none =>
   simp -implicitDefEqProofs (disch:=first|exact dz _|fail) only [↓qJ,qK,qL,qA,qB,qC,qD,qE,↓reduceIte,qG,qH,qI,gt,hq,Option.getD,Option.isSome,x1a,x1b,x1d,x2a,x2b,x2d]
   refine callI_of (panic P1 hp) ?_
   rintro v h3 ⟨γ',P3,N3⟩
   simp -implicitDefEqProofs (disch:=first|exact dz _|fail) only [↓qJ,qK,qL,qA,qB,qC,qD,qE,↓reduceIte,qG,qH,qI]
   subst hQ
   exact ⟨γ',P3,N1.trans N3⟩
  | some w =>
   obtain ⟨id5,g5,o5,vs5,y1,y2,y3,y4,P2,N2,_⟩:=P1.put a1 q1 hp
   simp -implicitDefEqProofs (disch:=first|exact dz _|fail) only [↓qJ,qK,qL,qA,qB,qC,qD,qE,↓reduceIte,qG,qH,qI,gt,hq,Option.getD,Option.isSome,y1,y3,y4,x1a,x1b,x1d,x2a,x2b,x2d]
   subst hQ
   exact ⟨γ,P2,N1.trans N2⟩
 ·-- 23
  simp only [Int.reduceEq,if_false,if_true,isWhole,isFloat,isMem,isCall,isChan,Int.reduceLE,decide_true,decide_false,Bool.and_true,Bool.true_and,Bool.and_false,Bool.false_and,Bool.or_false,Bool.or_true,Bool.false_or,Bool.true_or,Bool.and_self,Bool.or_self,Bool.false_eq_true,Option.bind_eq_some_iff] at hp
  obtain ⟨wx,hwx,wy,hwy,o,ho',hp⟩:=hp
  obtain ⟨id1,g1,o1,vs1,x1a,x1b,x1c,x1d⟩:=q1.slots.ix (enc:=fun n=>.int .u64 n) hwx
  obtain ⟨id2,g2,o2,vs2,x2a,x2b,x2c,x2d⟩:=q1.slots.ix (enc:=fun n=>.int .u64 n) hwy
  simp -implicitDefEqProofs (disch:=first|exact dz _|fail) only [↓qJ,qK,qL,qA,qB,qC,qD,qE,↓reduceIte,qG,qH,qI,gt,hq,x1a,x1b,x1d,x2a,x2b,x2d]
  refine trCall_of (whole _ _ _ _ rfl ho') ?_
  rintro v h3 ⟨rfl,rfl⟩
  cases o with
  | none =>
   simp -implicitDefEqProofs (disch:=first|exact dz _|fail) only [↓qJ,qK,qL,qA,qB,qC,qD,qE,↓reduceIte,qG,qH,qI,gt,hq,Option.getD,Option.isSome,x1a,x1b,x1d,x2a,x2b,x2d]
   refine callI_of (panic P1 hp) ?_
   rintro v h3 ⟨γ',P3,N3⟩
   simp -implicitDefEqProofs (disch:=first|exact dz _|fail) only [↓qJ,qK,qL,qA,qB,qC,qD,qE,↓reduceIte,qG,qH,qI]
   subst hQ
   exact ⟨γ',P3,N1.trans N3⟩
  | some w =>
   obtain ⟨id5,g5,o5,vs5,y1,y2,y3,y4,P2,N2,_⟩:=P1.put a1 q1 hp
   simp -implicitDefEqProofs (disch:=first|exact dz _|fail) only [↓qJ,qK,qL,qA,qB,qC,qD,qE,↓reduceIte,qG,qH,qI,gt,hq,Option.getD,Option.isSome,y1,y3,y4,x1a,x1b,x1d,x2a,x2b,x2d]
   subst hQ
   exact ⟨γ,P2,N1.trans N2⟩
end
end Go.Proofs.Ytnbnpjhlflcjeaa.Id
namespace Go.Proofs.Ytnbnpjhlflcjeaa.Id
open Go Go.AM Go.Proofs.Ytnbnpjhlflcjeaa.AmGF
open Nat renaming reduceAdd → qA,reduceLeDiff → qB,reduceEqDiff → qC,reduceLT → qE
open Int renaming reduceToNat → qD,reduceEq → qG,reduceLT → qH,reduceLE → qI
section
variable {h0 h h':AHeap} {K:Nat→Tag} {γ:GI} {R:Run}
set_option maxHeartbeats 40000000 in
theorem exec3 (P:RunP h γ R) {k j i:Nat} {r:Routine} {f:Frame} {x:Nat×List Nat} (a:At h γ R k j r f x i) {sv iv lv vv fv:AVal} {la:List (Int×AVal)} (s:RtV h γ.K k x.1 x.2 r fv) (q:FrV h γ.K k j i f sv iv lv vv la) {z:PIns} {zv:AVal} (hz:Ro h γ.K fun h=>SlRd h 1 encK zv z.list) {choice:Int} {R':Run} (hp:R.execute k j z choice=some R') (hm:z.op=26∨z.op=27∨z.op=28∨z.op=29∨z.op=30∨z.op=31∨z.op=32∨z.op=33∨z.op=34∨z.op=35∨z.op=36∨z.op=37∨z.op=38∨z.op=39∨z.op=40∨z.op=41∨z.op=42∨z.op=43∨z.op=44∨z.op=45) :
  CallP AP 39 [.ptr γ.d 0 0,.ptr x.1 0 0,.ptr i 0 0,.agg (rowI z zv),.int .u64 choice] h fun v h'=>∃ γ',RunP h' γ' R'∧Nxt h h' γ γ':=by
 refine callP (rfl:Tr.get AP 39=some A39) ?_
 generalize hQ:(fun (r:AVal) (h':AHeap)=>_)=Q
 have c1:=(Chg.refl (fun _=>False) h γ.K).push (.cells 0 false (rowI z zv))
 have N1:=Nxt.tmp c1
 have P1:=P.tmp c1
 have q1:=q.keep c1 (fun q=>q) (fun q=>q) (fun q=>q) (fun q=>q)
 have r1:=s.keep c1 (fun q=>q) (fun q=>q) (fun q=>q) (fun k=>⟨fun q=>q,fun q=>q,fun q=>q⟩)
 have z1:=hz.keep c1 (fun q=>q)
 have ho:=P1.obj
 have hlt:=P1.ltd
 have kn:=P.kn
 have gt:(h.push (.cells 0 false (rowI z zv))).get h.n=.cells 0 false (rowI z zv):=AHeap.get_push_same _ _
 have lt:h.n<(h.push (.cells 0 false (rowI z zv))).n:=by simp
 have zc:=hz.now.cells
 have zb:=hz.now.beq
 simp -implicitDefEqProofs (disch:=first|exact dz _|fail) only [↓qJ,qK,qL,qA,qB,qC,qD,qE,↓reduceIte,qG,qH,qI,rowI,zc.2]
 generalize (h.push (.cells 0 false (rowI z zv)))=h1 at *
 generalize h.n=t at *
 have a1:At h1 γ R k j r f x i:=⟨a.hr,a.hf,a.hx,a.hi⟩
 have hq:=q1.obj
 have hqlt:=q1.lt
 have hro:=r1.obj
 have hrlt:=r1.lt
 have sb:=q1.slots.beq
 have ne:t≠i:=fun e=>by have:=q1.kid;rw [←e,kn] at this;cases this
 obtain ⟨op,za,zzb,zzc,imm,list⟩:=z
 simp only [rowI] at gt hp hm z1 ⊢
 unfold Run.execute at hp
 rw [a.hr] at hp
 simp only [Option.bind_some,a.hf] at hp
 rcases hm with rfl | rfl | rfl | rfl | rfl | rfl | rfl | rfl | rfl | rfl | rfl | rfl | rfl | rfl | rfl | rfl | rfl | rfl | rfl | rfl
 ·-- 26
  simp only [Int.reduceEq,if_false,if_true,isWhole,isFloat,isMem,isCall,isChan,Int.reduceLE,decide_true,decide_false,Bool.and_true,Bool.true_and,Bool.and_false,Bool.false_and,Bool.or_false,Bool.or_true,Bool.false_or,Bool.true_or,Bool.and_self,Bool.or_self,Bool.false_eq_true] at hp
  simp -implicitDefEqProofs (disch:=first|exact dz _|fail) only [↓qJ,qK,qL,qA,qB,qC,qD,qE,↓reduceIte,qG,qH,qI,gt,hq]
  refine callI_of (memory P1 a1 q1 z1 rfl hp) ?_
  rintro v h3 ⟨γ',P3,N3⟩
  simp -implicitDefEqProofs (disch:=first|exact dz _|fail) only [↓qJ,qK,qL,qA,qB,qC,qD,qE,↓reduceIte,qG,qH,qI]
  subst hQ
  exact ⟨γ',P3,N1.trans N3⟩
 ·-- 27
  simp only [Int.reduceEq,if_false,if_true,isWhole,isFloat,isMem,isCall,isChan,Int.reduceLE,decide_true,decide_false,Bool.and_true,Bool.true_and,Bool.and_false,Bool.false_and,Bool.or_false,Bool.or_true,Bool.false_or,Bool.true_or,Bool.and_self,Bool.or_self,Bool.false_eq_true] at hp
  simp -implicitDefEqProofs (disch:=first|exact dz _|fail) only [↓qJ,qK,qL,qA,qB,qC,qD,qE,↓reduceIte,qG,qH,qI,gt,hq]
  refine callI_of (memory P1 a1 q1 z1 rfl hp) ?_
  rintro v h3 ⟨γ',P3,N3⟩
  simp -implicitDefEqProofs (disch:=first|exact dz _|fail) only [↓qJ,qK,qL,qA,qB,qC,qD,qE,↓reduceIte,qG,qH,qI]
  subst hQ
  exact ⟨γ',P3,N1.trans N3⟩
 ·-- 28
  simp only [Int.reduceEq,if_false,if_true,isWhole,isFloat,isMem,isCall,isChan,Int.reduceLE,decide_true,decide_false,Bool.and_true,Bool.true_and,Bool.and_false,Bool.false_and,Bool.or_false,Bool.or_true,Bool.false_or,Bool.true_or,Bool.and_self,Bool.or_self,Bool.false_eq_true] at hp
  simp -implicitDefEqProofs (disch:=first|exact dz _|fail) only [↓qJ,qK,qL,qA,qB,qC,qD,qE,↓reduceIte,qG,qH,qI,gt,hq]
  refine callI_of (memory P1 a1 q1 z1 rfl hp) ?_
  rintro v h3 ⟨γ',P3,N3⟩
  simp -implicitDefEqProofs (disch:=first|exact dz _|fail) only [↓qJ,qK,qL,qA,qB,qC,qD,qE,↓reduceIte,qG,qH,qI]
  subst hQ
  exact ⟨γ',P3,N1.trans N3⟩
 ·-- 29
  simp only [Int.reduceEq,if_false,if_true,isWhole,isFloat,isMem,isCall,isChan,Int.reduceLE,decide_true,decide_false,Bool.and_true,Bool.true_and,Bool.and_false,Bool.false_and,Bool.or_false,Bool.or_true,Bool.false_or,Bool.true_or,Bool.and_self,Bool.or_self,Bool.false_eq_true] at hp
  simp -implicitDefEqProofs (disch:=first|exact dz _|fail) only [↓qJ,qK,qL,qA,qB,qC,qD,qE,↓reduceIte,qG,qH,qI,gt,hq]
  refine callI_of (memory P1 a1 q1 z1 rfl hp) ?_
  rintro v h3 ⟨γ',P3,N3⟩
  simp -implicitDefEqProofs (disch:=first|exact dz _|fail) only [↓qJ,qK,qL,qA,qB,qC,qD,qE,↓reduceIte,qG,qH,qI]
  subst hQ
  exact ⟨γ',P3,N1.trans N3⟩
 ·-- 30
  simp only [Int.reduceEq,if_false,if_true,isWhole,isFloat,isMem,isCall,isChan,Int.reduceLE,decide_true,decide_false,Bool.and_true,Bool.true_and,Bool.and_false,Bool.false_and,Bool.or_false,Bool.or_true,Bool.false_or,Bool.true_or,Bool.and_self,Bool.or_self,Bool.false_eq_true] at hp
  simp -implicitDefEqProofs (disch:=first|exact dz _|fail) only [↓qJ,qK,qL,qA,qB,qC,qD,qE,↓reduceIte,qG,qH,qI,gt,hq]
  refine callI_of (memory P1 a1 q1 z1 rfl hp) ?_
  rintro v h3 ⟨γ',P3,N3⟩
  simp -implicitDefEqProofs (disch:=first|exact dz _|fail) only [↓qJ,qK,qL,qA,qB,qC,qD,qE,↓reduceIte,qG,qH,qI]
  subst hQ
  exact ⟨γ',P3,N1.trans N3⟩
 ·-- 31
  simp only [Int.reduceEq,if_false,if_true,isWhole,isFloat,isMem,isCall,isChan,Int.reduceLE,decide_true,decide_false,Bool.and_true,Bool.true_and,Bool.and_false,Bool.false_and,Bool.or_false,Bool.or_true,Bool.false_or,Bool.true_or,Bool.and_self,Bool.or_self,Bool.false_eq_true] at hp
  simp -implicitDefEqProofs (disch:=first|exact dz _|fail) only [↓qJ,qK,qL,qA,qB,qC,qD,qE,↓reduceIte,qG,qH,qI,gt,hq]
  refine callI_of (memory P1 a1 q1 z1 rfl hp) ?_
  rintro v h3 ⟨γ',P3,N3⟩
  simp -implicitDefEqProofs (disch:=first|exact dz _|fail) only [↓qJ,qK,qL,qA,qB,qC,qD,qE,↓reduceIte,qG,qH,qI]
  subst hQ
  exact ⟨γ',P3,N1.trans N3⟩
 ·-- 32
  simp only [Int.reduceEq,if_false,if_true,isWhole,isFloat,isMem,isCall,isChan,Int.reduceLE,decide_true,decide_false,Bool.and_true,Bool.true_and,Bool.and_false,Bool.false_and,Bool.or_false,Bool.or_true,Bool.false_or,Bool.true_or,Bool.and_self,Bool.or_self,Bool.false_eq_true] at hp
  simp -implicitDefEqProofs (disch:=first|exact dz _|fail) only [↓qJ,qK,qL,qA,qB,qC,qD,qE,↓reduceIte,qG,qH,qI,gt,hq]
  refine callI_of (memory P1 a1 q1 z1 rfl hp) ?_
  rintro v h3 ⟨γ',P3,N3⟩
  simp -implicitDefEqProofs (disch:=first|exact dz _|fail) only [↓qJ,qK,qL,qA,qB,qC,qD,qE,↓reduceIte,qG,qH,qI]
  subst hQ
  exact ⟨γ',P3,N1.trans N3⟩
 ·-- 33
  simp only [Int.reduceEq,if_false,if_true,isWhole,isFloat,isMem,isCall,isChan,Int.reduceLE,decide_true,decide_false,Bool.and_true,Bool.true_and,Bool.and_false,Bool.false_and,Bool.or_false,Bool.or_true,Bool.false_or,Bool.true_or,Bool.and_self,Bool.or_self,Bool.false_eq_true] at hp
  simp -implicitDefEqProofs (disch:=first|exact dz _|fail) only [↓qJ,qK,qL,qA,qB,qC,qD,qE,↓reduceIte,qG,qH,qI,gt,hq]
  refine callI_of (memory P1 a1 q1 z1 rfl hp) ?_
  rintro v h3 ⟨γ',P3,N3⟩
  simp -implicitDefEqProofs (disch:=first|exact dz _|fail) only [↓qJ,qK,qL,qA,qB,qC,qD,qE,↓reduceIte,qG,qH,qI]
  subst hQ
  exact ⟨γ',P3,N1.trans N3⟩
 ·-- 34
  simp only [Int.reduceEq,if_false,if_true,isWhole,isFloat,isMem,isCall,isChan,Int.reduceLE,decide_true,decide_false,Bool.and_true,Bool.true_and,Bool.and_false,Bool.false_and,Bool.or_false,Bool.or_true,Bool.false_or,Bool.true_or,Bool.and_self,Bool.or_self,Bool.false_eq_true] at hp
  simp -implicitDefEqProofs (disch:=first|exact dz _|fail) only [↓qJ,qK,qL,qA,qB,qC,qD,qE,↓reduceIte,qG,qH,qI,gt,hq]
  refine callI_of (memory P1 a1 q1 z1 rfl hp) ?_
  rintro v h3 ⟨γ',P3,N3⟩
  simp -implicitDefEqProofs (disch:=first|exact dz _|fail) only [↓qJ,qK,qL,qA,qB,qC,qD,qE,↓reduceIte,qG,qH,qI]
  subst hQ
  exact ⟨γ',P3,N1.trans N3⟩
 ·-- 35
  simp only [Int.reduceEq,if_false,if_true,isWhole,isFloat,isMem,isCall,isChan,Int.reduceLE,decide_true,decide_false,Bool.and_true,Bool.true_and,Bool.and_false,Bool.false_and,Bool.or_false,Bool.or_true,Bool.false_or,Bool.true_or,Bool.and_self,Bool.or_self,Bool.false_eq_true] at hp
  simp -implicitDefEqProofs (disch:=first|exact dz _|fail) only [↓qJ,qK,qL,qA,qB,qC,qD,qE,↓reduceIte,qG,qH,qI,gt,hq]
  refine callI_of (calls P1 a1 r1 q1 z1 rfl hp) ?_
  rintro v h3 ⟨γ',P3,N3⟩
  simp -implicitDefEqProofs (disch:=first|exact dz _|fail) only [↓qJ,qK,qL,qA,qB,qC,qD,qE,↓reduceIte,qG,qH,qI]
  subst hQ
  exact ⟨γ',P3,N1.trans N3⟩
 ·-- 36
  simp only [Int.reduceEq,if_false,if_true,isWhole,isFloat,isMem,isCall,isChan,Int.reduceLE,decide_true,decide_false,Bool.and_true,Bool.true_and,Bool.and_false,Bool.false_and,Bool.or_false,Bool.or_true,Bool.false_or,Bool.true_or,Bool.and_self,Bool.or_self,Bool.false_eq_true] at hp
  simp -implicitDefEqProofs (disch:=first|exact dz _|fail) only [↓qJ,qK,qL,qA,qB,qC,qD,qE,↓reduceIte,qG,qH,qI,gt,hq]
  refine callI_of (calls P1 a1 r1 q1 z1 rfl hp) ?_
  rintro v h3 ⟨γ',P3,N3⟩
  simp -implicitDefEqProofs (disch:=first|exact dz _|fail) only [↓qJ,qK,qL,qA,qB,qC,qD,qE,↓reduceIte,qG,qH,qI]
  subst hQ
  exact ⟨γ',P3,N1.trans N3⟩
 ·-- 37
  simp only [Int.reduceEq,if_false,if_true,isWhole,isFloat,isMem,isCall,isChan,Int.reduceLE,decide_true,decide_false,Bool.and_true,Bool.true_and,Bool.and_false,Bool.false_and,Bool.or_false,Bool.or_true,Bool.false_or,Bool.true_or,Bool.and_self,Bool.or_self,Bool.false_eq_true] at hp
  simp -implicitDefEqProofs (disch:=first|exact dz _|fail) only [↓qJ,qK,qL,qA,qB,qC,qD,qE,↓reduceIte,qG,qH,qI,gt,hq]
  refine callI_of (calls P1 a1 r1 q1 z1 rfl hp) ?_
  rintro v h3 ⟨γ',P3,N3⟩
  simp -implicitDefEqProofs (disch:=first|exact dz _|fail) only [↓qJ,qK,qL,qA,qB,qC,qD,qE,↓reduceIte,qG,qH,qI]
  subst hQ
  exact ⟨γ',P3,N1.trans N3⟩
 ·-- 38
  simp only [Int.reduceEq,if_false,if_true,isWhole,isFloat,isMem,isCall,isChan,Int.reduceLE,decide_true,decide_false,Bool.and_true,Bool.true_and,Bool.and_false,Bool.false_and,Bool.or_false,Bool.or_true,Bool.false_or,Bool.true_or,Bool.and_self,Bool.or_self,Bool.false_eq_true] at hp
  simp -implicitDefEqProofs (disch:=first|exact dz _|fail) only [↓qJ,qK,qL,qA,qB,qC,qD,qE,↓reduceIte,qG,qH,qI,gt,hq]
  refine callI_of (calls P1 a1 r1 q1 z1 rfl hp) ?_
  rintro v h3 ⟨γ',P3,N3⟩
  simp -implicitDefEqProofs (disch:=first|exact dz _|fail) only [↓qJ,qK,qL,qA,qB,qC,qD,qE,↓reduceIte,qG,qH,qI]
  subst hQ
  exact ⟨γ',P3,N1.trans N3⟩
 ·-- 39
  simp only [Int.reduceEq,if_false,if_true,isWhole,isFloat,isMem,isCall,isChan,Int.reduceLE,decide_true,decide_false,Bool.and_true,Bool.true_and,Bool.and_false,Bool.false_and,Bool.or_false,Bool.or_true,Bool.false_or,Bool.true_or,Bool.and_self,Bool.or_self,Bool.false_eq_true] at hp
  simp -implicitDefEqProofs (disch:=first|exact dz _|fail) only [↓qJ,qK,qL,qA,qB,qC,qD,qE,↓reduceIte,qG,qH,qI,gt,hq]
  refine callI_of (calls P1 a1 r1 q1 z1 rfl hp) ?_
  rintro v h3 ⟨γ',P3,N3⟩
  simp -implicitDefEqProofs (disch:=first|exact dz _|fail) only [↓qJ,qK,qL,qA,qB,qC,qD,qE,↓reduceIte,qG,qH,qI]
  subst hQ
  exact ⟨γ',P3,N1.trans N3⟩
 ·-- 40
  simp only [Int.reduceEq,if_false,if_true,isWhole,isFloat,isMem,isCall,isChan,Int.reduceLE,decide_true,decide_false,Bool.and_true,Bool.true_and,Bool.and_false,Bool.false_and,Bool.or_false,Bool.or_true,Bool.false_or,Bool.true_or,Bool.and_self,Bool.or_self,Bool.false_eq_true] at hp
  simp -implicitDefEqProofs (disch:=first|exact dz _|fail) only [↓qJ,qK,qL,qA,qB,qC,qD,qE,↓reduceIte,qG,qH,qI,gt,hq]
  refine callI_of (calls P1 a1 r1 q1 z1 rfl hp) ?_
  rintro v h3 ⟨γ',P3,N3⟩
  simp -implicitDefEqProofs (disch:=first|exact dz _|fail) only [↓qJ,qK,qL,qA,qB,qC,qD,qE,↓reduceIte,qG,qH,qI]
  subst hQ
  exact ⟨γ',P3,N1.trans N3⟩
 ·-- 41
  simp only [Int.reduceEq,if_false,if_true,isWhole,isFloat,isMem,isCall,isChan,Int.reduceLE,decide_true,decide_false,Bool.and_true,Bool.true_and,Bool.and_false,Bool.false_and,Bool.or_false,Bool.or_true,Bool.false_or,Bool.true_or,Bool.and_self,Bool.or_self,Bool.false_eq_true] at hp
  simp -implicitDefEqProofs (disch:=first|exact dz _|fail) only [↓qJ,qK,qL,qA,qB,qC,qD,qE,↓reduceIte,qG,qH,qI,gt,hq]
  refine callI_of (iChannels P1 a1 r1 q1 z1 hp) ?_
  rintro v h3 ⟨γ',P3,N3⟩
  simp -implicitDefEqProofs (disch:=first|exact dz _|fail) only [↓qJ,qK,qL,qA,qB,qC,qD,qE,↓reduceIte,qG,qH,qI]
  subst hQ
  exact ⟨γ',P3,N1.trans N3⟩
 ·-- 42
  simp only [Int.reduceEq,if_false,if_true,isWhole,isFloat,isMem,isCall,isChan,Int.reduceLE,decide_true,decide_false,Bool.and_true,Bool.true_and,Bool.and_false,Bool.false_and,Bool.or_false,Bool.or_true,Bool.false_or,Bool.true_or,Bool.and_self,Bool.or_self,Bool.false_eq_true] at hp
  simp -implicitDefEqProofs (disch:=first|exact dz _|fail) only [↓qJ,qK,qL,qA,qB,qC,qD,qE,↓reduceIte,qG,qH,qI,gt,hq]
  refine callI_of (iChannels P1 a1 r1 q1 z1 hp) ?_
  rintro v h3 ⟨γ',P3,N3⟩
  simp -implicitDefEqProofs (disch:=first|exact dz _|fail) only [↓qJ,qK,qL,qA,qB,qC,qD,qE,↓reduceIte,qG,qH,qI]
  subst hQ
  exact ⟨γ',P3,N1.trans N3⟩
 ·-- 43
  simp only [Int.reduceEq,if_false,if_true,isWhole,isFloat,isMem,isCall,isChan,Int.reduceLE,decide_true,decide_false,Bool.and_true,Bool.true_and,Bool.and_false,Bool.false_and,Bool.or_false,Bool.or_true,Bool.false_or,Bool.true_or,Bool.and_self,Bool.or_self,Bool.false_eq_true] at hp
  simp -implicitDefEqProofs (disch:=first|exact dz _|fail) only [↓qJ,qK,qL,qA,qB,qC,qD,qE,↓reduceIte,qG,qH,qI,gt,hq]
  refine callI_of (iChannels P1 a1 r1 q1 z1 hp) ?_
  rintro v h3 ⟨γ',P3,N3⟩
  simp -implicitDefEqProofs (disch:=first|exact dz _|fail) only [↓qJ,qK,qL,qA,qB,qC,qD,qE,↓reduceIte,qG,qH,qI]
  subst hQ
  exact ⟨γ',P3,N1.trans N3⟩
 ·-- 44
  simp only [Int.reduceEq,if_false,if_true,isWhole,isFloat,isMem,isCall,isChan,Int.reduceLE,decide_true,decide_false,Bool.and_true,Bool.true_and,Bool.and_false,Bool.false_and,Bool.or_false,Bool.or_true,Bool.false_or,Bool.true_or,Bool.and_self,Bool.or_self,Bool.false_eq_true] at hp
  simp -implicitDefEqProofs (disch:=first|exact dz _|fail) only [↓qJ,qK,qL,qA,qB,qC,qD,qE,↓reduceIte,qG,qH,qI,gt,hq]
  refine callI_of (iChannels P1 a1 r1 q1 z1 hp) ?_
  rintro v h3 ⟨γ',P3,N3⟩
  simp -implicitDefEqProofs (disch:=first|exact dz _|fail) only [↓qJ,qK,qL,qA,qB,qC,qD,qE,↓reduceIte,qG,qH,qI]
  subst hQ
  exact ⟨γ',P3,N1.trans N3⟩
 ·-- 45
  simp only [Int.reduceEq,if_false,if_true,isWhole,isFloat,isMem,isCall,isChan,Int.reduceLE,decide_true,decide_false,Bool.and_true,Bool.true_and,Bool.and_false,Bool.false_and,Bool.or_false,Bool.or_true,Bool.false_or,Bool.true_or,Bool.and_self,Bool.or_self,Bool.false_eq_true] at hp
  simp -implicitDefEqProofs (disch:=first|exact dz _|fail) only [↓qJ,qK,qL,qA,qB,qC,qD,qE,↓reduceIte,qG,qH,qI,gt,hq]
  refine callI_of (iChannels P1 a1 r1 q1 z1 hp) ?_
  rintro v h3 ⟨γ',P3,N3⟩
  simp -implicitDefEqProofs (disch:=first|exact dz _|fail) only [↓qJ,qK,qL,qA,qB,qC,qD,qE,↓reduceIte,qG,qH,qI]
  subst hQ
  exact ⟨γ',P3,N1.trans N3⟩
end
end Go.Proofs.Ytnbnpjhlflcjeaa.Id
namespace Go.Proofs.Ytnbnpjhlflcjeaa.Id
open Go Go.AM Go.Proofs.Ytnbnpjhlflcjeaa.AmGF
open Nat renaming reduceAdd → qA,reduceLeDiff → qB,reduceEqDiff → qC,reduceLT → qE
open Int renaming reduceToNat → qD,reduceEq → qG,reduceLT → qH,reduceLE → qI
section
variable {h0 h h':AHeap} {K:Nat→Tag} {γ:GI} {R:Run}
set_option maxHeartbeats 40000000 in
theorem exec4 (P:RunP h γ R) {k j i:Nat} {r:Routine} {f:Frame} {x:Nat×List Nat} (a:At h γ R k j r f x i) {sv iv lv vv fv:AVal} {la:List (Int×AVal)} (s:RtV h γ.K k x.1 x.2 r fv) (q:FrV h γ.K k j i f sv iv lv vv la) {z:PIns} {zv:AVal} (hz:Ro h γ.K fun h=>SlRd h 1 encK zv z.list) {choice:Int} {R':Run} (hp:R.execute k j z choice=some R') (hm:z.op=15∨z.op=16∨z.op=17∨z.op=18∨z.op=19∨z.op=20∨z.op=21∨z.op=22) :
  CallP AP 39 [.ptr γ.d 0 0,.ptr x.1 0 0,.ptr i 0 0,.agg (rowI z zv),.int .u64 choice] h fun v h'=>∃ γ',RunP h' γ' R'∧Nxt h h' γ γ':=by
 refine callP (rfl:Tr.get AP 39=some A39) ?_
 generalize hQ:(fun (r:AVal) (h':AHeap)=>_)=Q
 have c1:=(Chg.refl (fun _=>False) h γ.K).push (.cells 0 false (rowI z zv))
 have N1:=Nxt.tmp c1
 have P1:=P.tmp c1
 have q1:=q.keep c1 (fun q=>q) (fun q=>q) (fun q=>q) (fun q=>q)
 have r1:=s.keep c1 (fun q=>q) (fun q=>q) (fun q=>q) (fun k=>⟨fun q=>q,fun q=>q,fun q=>q⟩)
 have z1:=hz.keep c1 (fun q=>q)
 have ho:=P1.obj
 have hlt:=P1.ltd
 have kn:=P.kn
 have gt:(h.push (.cells 0 false (rowI z zv))).get h.n=.cells 0 false (rowI z zv):=AHeap.get_push_same _ _
 have lt:h.n<(h.push (.cells 0 false (rowI z zv))).n:=by simp
 have zc:=hz.now.cells
 have zb:=hz.now.beq
 simp -implicitDefEqProofs (disch:=first|exact dz _|fail) only [↓qJ,qK,qL,qA,qB,qC,qD,qE,↓reduceIte,qG,qH,qI,rowI,zc.2]
 generalize (h.push (.cells 0 false (rowI z zv)))=h1 at *
 generalize h.n=t at *
 have a1:At h1 γ R k j r f x i:=⟨a.hr,a.hf,a.hx,a.hi⟩
 have hq:=q1.obj
 have hqlt:=q1.lt
 have hro:=r1.obj
 have hrlt:=r1.lt
 have sb:=q1.slots.beq
 have ne:t≠i:=fun e=>by have:=q1.kid;rw [←e,kn] at this;cases this
 obtain ⟨op,za,zzb,zzc,imm,list⟩:=z
 simp only [rowI] at gt hp hm z1 ⊢
 unfold Run.execute at hp
 rw [a.hr] at hp
 simp only [Option.bind_some,a.hf] at hp
 rcases hm with rfl | rfl | rfl | rfl | rfl | rfl | rfl | rfl
 ·-- 15
  simp only [Int.reduceEq,if_false,if_true,isWhole,isFloat,isMem,isCall,isChan,Int.reduceLE,decide_true,decide_false,Bool.and_true,Bool.true_and,Bool.and_false,Bool.false_and,Bool.or_false,Bool.or_true,Bool.false_or,Bool.true_or,Bool.and_self,Bool.or_self,Bool.false_eq_true,Option.bind_eq_some_iff] at hp
  obtain ⟨wx,hwx,wy,hwy,hp⟩:=hp
  obtain ⟨id1,g1,o1,vs1,x1a,x1b,x1c,x1d⟩:=q1.slots.ix (enc:=fun n=>.int .u64 n) hwx
  obtain ⟨id2,g2,o2,vs2,x2a,x2b,x2c,x2d⟩:=q1.slots.ix (enc:=fun n=>.int .u64 n) hwy
  obtain ⟨id5,g5,o5,vs5,y1,y2,y3,y4,P2,N2,_⟩:=P1.put a1 q1 hp
  simp -implicitDefEqProofs (disch:=first|exact dz _|fail) only [↓qJ,qK,qL,qA,qB,qC,qD,qE,↓reduceIte,qG,qH,qI,gt,hq,x1a,x1b,x1d,x2a,x2b,x2d]
  refine trCall_of (sFloat _ _ _ _ (by omega)) ?_
  rintro v h3 ⟨rfl,rfl⟩
  simp -implicitDefEqProofs (disch:=first|exact dz _|fail) only [↓qJ,qK,qL,qA,qB,qC,qD,qE,↓reduceIte,qG,qH,qI,gt,hq,y1,y3,y4,sb,sameO_some,x1a,x1b,x1d,x2a,x2b,x2d]
  subst hQ
  exact ⟨γ,P2,N1.trans N2⟩
 ·-- 16
  simp only [Int.reduceEq,if_false,if_true,isWhole,isFloat,isMem,isCall,isChan,Int.reduceLE,decide_true,decide_false,Bool.and_true,Bool.true_and,Bool.and_false,Bool.false_and,Bool.or_false,Bool.or_true,Bool.false_or,Bool.true_or,Bool.and_self,Bool.or_self,Bool.false_eq_true,Option.bind_eq_some_iff] at hp
  obtain ⟨wx,hwx,wy,hwy,hp⟩:=hp
  obtain ⟨id1,g1,o1,vs1,x1a,x1b,x1c,x1d⟩:=q1.slots.ix (enc:=fun n=>.int .u64 n) hwx
  obtain ⟨id2,g2,o2,vs2,x2a,x2b,x2c,x2d⟩:=q1.slots.ix (enc:=fun n=>.int .u64 n) hwy
  obtain ⟨id5,g5,o5,vs5,y1,y2,y3,y4,P2,N2,_⟩:=P1.put a1 q1 hp
  simp -implicitDefEqProofs (disch:=first|exact dz _|fail) only [↓qJ,qK,qL,qA,qB,qC,qD,qE,↓reduceIte,qG,qH,qI,gt,hq,x1a,x1b,x1d,x2a,x2b,x2d]
  refine trCall_of (sFloat _ _ _ _ (by omega)) ?_
  rintro v h3 ⟨rfl,rfl⟩
  simp -implicitDefEqProofs (disch:=first|exact dz _|fail) only [↓qJ,qK,qL,qA,qB,qC,qD,qE,↓reduceIte,qG,qH,qI,gt,hq,y1,y3,y4,sb,sameO_some,x1a,x1b,x1d,x2a,x2b,x2d]
  subst hQ
  exact ⟨γ,P2,N1.trans N2⟩
 ·-- 17
  simp only [Int.reduceEq,if_false,if_true,isWhole,isFloat,isMem,isCall,isChan,Int.reduceLE,decide_true,decide_false,Bool.and_true,Bool.true_and,Bool.and_false,Bool.false_and,Bool.or_false,Bool.or_true,Bool.false_or,Bool.true_or,Bool.and_self,Bool.or_self,Bool.false_eq_true,Option.bind_eq_some_iff] at hp
  obtain ⟨wx,hwx,wy,hwy,hp⟩:=hp
  obtain ⟨id1,g1,o1,vs1,x1a,x1b,x1c,x1d⟩:=q1.slots.ix (enc:=fun n=>.int .u64 n) hwx
  obtain ⟨id2,g2,o2,vs2,x2a,x2b,x2c,x2d⟩:=q1.slots.ix (enc:=fun n=>.int .u64 n) hwy
  obtain ⟨id5,g5,o5,vs5,y1,y2,y3,y4,P2,N2,_⟩:=P1.put a1 q1 hp
  simp -implicitDefEqProofs (disch:=first|exact dz _|fail) only [↓qJ,qK,qL,qA,qB,qC,qD,qE,↓reduceIte,qG,qH,qI,gt,hq,x1a,x1b,x1d,x2a,x2b,x2d]
  refine trCall_of (sFloat _ _ _ _ (by omega)) ?_
  rintro v h3 ⟨rfl,rfl⟩
  simp -implicitDefEqProofs (disch:=first|exact dz _|fail) only [↓qJ,qK,qL,qA,qB,qC,qD,qE,↓reduceIte,qG,qH,qI,gt,hq,y1,y3,y4,sb,sameO_some,x1a,x1b,x1d,x2a,x2b,x2d]
  subst hQ
  exact ⟨γ,P2,N1.trans N2⟩
 ·-- 18
  simp only [Int.reduceEq,if_false,if_true,isWhole,isFloat,isMem,isCall,isChan,Int.reduceLE,decide_true,decide_false,Bool.and_true,Bool.true_and,Bool.and_false,Bool.false_and,Bool.or_false,Bool.or_true,Bool.false_or,Bool.true_or,Bool.and_self,Bool.or_self,Bool.false_eq_true,Option.bind_eq_some_iff] at hp
  obtain ⟨wx,hwx,wy,hwy,hp⟩:=hp
  obtain ⟨id1,g1,o1,vs1,x1a,x1b,x1c,x1d⟩:=q1.slots.ix (enc:=fun n=>.int .u64 n) hwx
  obtain ⟨id2,g2,o2,vs2,x2a,x2b,x2c,x2d⟩:=q1.slots.ix (enc:=fun n=>.int .u64 n) hwy
  obtain ⟨id5,g5,o5,vs5,y1,y2,y3,y4,P2,N2,_⟩:=P1.put a1 q1 hp
  simp -implicitDefEqProofs (disch:=first|exact dz _|fail) only [↓qJ,qK,qL,qA,qB,qC,qD,qE,↓reduceIte,qG,qH,qI,gt,hq,x1a,x1b,x1d,x2a,x2b,x2d]
  refine trCall_of (sFloat _ _ _ _ (by omega)) ?_
  rintro v h3 ⟨rfl,rfl⟩
  simp -implicitDefEqProofs (disch:=first|exact dz _|fail) only [↓qJ,qK,qL,qA,qB,qC,qD,qE,↓reduceIte,qG,qH,qI,gt,hq,y1,y3,y4,sb,sameO_some,x1a,x1b,x1d,x2a,x2b,x2d]
  subst hQ
  exact ⟨γ,P2,N1.trans N2⟩
 ·-- 19
  simp only [Int.reduceEq,if_false,if_true,isWhole,isFloat,isMem,isCall,isChan,Int.reduceLE,decide_true,decide_false,Bool.and_true,Bool.true_and,Bool.and_false,Bool.false_and,Bool.or_false,Bool.or_true,Bool.false_or,Bool.true_or,Bool.and_self,Bool.or_self,Bool.false_eq_true,Option.bind_eq_some_iff] at hp
  obtain ⟨wx,hwx,wy,hwy,hp⟩:=hp
  obtain ⟨id1,g1,o1,vs1,x1a,x1b,x1c,x1d⟩:=q1.slots.ix (enc:=fun n=>.int .u64 n) hwx
  obtain ⟨id2,g2,o2,vs2,x2a,x2b,x2c,x2d⟩:=q1.slots.ix (enc:=fun n=>.int .u64 n) hwy
  obtain ⟨id5,g5,o5,vs5,y1,y2,y3,y4,P2,N2,_⟩:=P1.put a1 q1 hp
  simp -implicitDefEqProofs (disch:=first|exact dz _|fail) only [↓qJ,qK,qL,qA,qB,qC,qD,qE,↓reduceIte,qG,qH,qI,gt,hq,x1a,x1b,x1d,x2a,x2b,x2d]
  refine trCall_of (sFloat _ _ _ _ (by omega)) ?_
  rintro v h3 ⟨rfl,rfl⟩
  simp -implicitDefEqProofs (disch:=first|exact dz _|fail) only [↓qJ,qK,qL,qA,qB,qC,qD,qE,↓reduceIte,qG,qH,qI,gt,hq,y1,y3,y4,sb,sameO_some,x1a,x1b,x1d,x2a,x2b,x2d]
  subst hQ
  exact ⟨γ,P2,N1.trans N2⟩
 ·-- 20
  simp only [Int.reduceEq,if_false,if_true,isWhole,isFloat,isMem,isCall,isChan,Int.reduceLE,decide_true,decide_false,Bool.and_true,Bool.true_and,Bool.and_false,Bool.false_and,Bool.or_false,Bool.or_true,Bool.false_or,Bool.true_or,Bool.and_self,Bool.or_self,Bool.false_eq_true,Option.bind_eq_some_iff] at hp
  obtain ⟨wx,hwx,wy,hwy,hp⟩:=hp
  obtain ⟨id1,g1,o1,vs1,x1a,x1b,x1c,x1d⟩:=q1.slots.ix (enc:=fun n=>.int .u64 n) hwx
  obtain ⟨id2,g2,o2,vs2,x2a,x2b,x2c,x2d⟩:=q1.slots.ix (enc:=fun n=>.int .u64 n) hwy
  obtain ⟨id5,g5,o5,vs5,y1,y2,y3,y4,P2,N2,_⟩:=P1.put a1 q1 hp
  simp -implicitDefEqProofs (disch:=first|exact dz _|fail) only [↓qJ,qK,qL,qA,qB,qC,qD,qE,↓reduceIte,qG,qH,qI,gt,hq,x1a,x1b,x1d,x2a,x2b,x2d]
  refine trCall_of (sFloat _ _ _ _ (by omega)) ?_
  rintro v h3 ⟨rfl,rfl⟩
  simp -implicitDefEqProofs (disch:=first|exact dz _|fail) only [↓qJ,qK,qL,qA,qB,qC,qD,qE,↓reduceIte,qG,qH,qI,gt,hq,y1,y3,y4,sb,sameO_some,x1a,x1b,x1d,x2a,x2b,x2d]
  subst hQ
  exact ⟨γ,P2,N1.trans N2⟩
 ·-- 21
  simp only [Int.reduceEq,if_false,if_true,isWhole,isFloat,isMem,isCall,isChan,Int.reduceLE,decide_true,decide_false,Bool.and_true,Bool.true_and,Bool.and_false,Bool.false_and,Bool.or_false,Bool.or_true,Bool.false_or,Bool.true_or,Bool.and_self,Bool.or_self,Bool.false_eq_true,Option.bind_eq_some_iff] at hp
  obtain ⟨wx,hwx,hp⟩:=hp
  obtain ⟨id1,g1,o1,vs1,x1a,x1b,x1c,x1d⟩:=q1.slots.ix (enc:=fun n=>.int .u64 n) hwx
  obtain ⟨id5,g5,o5,vs5,y1,y2,y3,y4,P2,N2,_⟩:=P1.put a1 q1 hp
  unfold i64 at P2 N2
  simp -implicitDefEqProofs (disch:=first|exact dz _|fail) only [↓qJ,qK,qL,qA,qB,qC,qD,qE,↓reduceIte,qG,qH,qI,gt,hq,x1a,x1b,x1d]
  refine trCall_of (sFrom _ _) ?_
  rintro v h3 ⟨rfl,rfl⟩
  simp -implicitDefEqProofs (disch:=first|exact dz _|fail) only [↓qJ,qK,qL,qA,qB,qC,qD,qE,↓reduceIte,qG,qH,qI,gt,hq,y1,y3,y4,sb,sameO_some,x1a,x1b,x1d]
  subst hQ
  exact ⟨γ,P2,N1.trans N2⟩
 ·-- 22
  simp only [Int.reduceEq,if_false,if_true,isWhole,isFloat,isMem,isCall,isChan,Int.reduceLE,decide_true,decide_false,Bool.and_true,Bool.true_and,Bool.and_false,Bool.false_and,Bool.or_false,Bool.or_true,Bool.false_or,Bool.true_or,Bool.and_self,Bool.or_self,Bool.false_eq_true,Option.bind_eq_some_iff] at hp
  obtain ⟨wx,hwx,n,hn,hp⟩:=hp
  obtain ⟨id1,g1,o1,vs1,x1a,x1b,x1c,x1d⟩:=q1.slots.ix (enc:=fun n=>.int .u64 n) hwx
  obtain ⟨id5,g5,o5,vs5,y1,y2,y3,y4,P2,N2,_⟩:=P1.put a1 q1 hp
  unfold u64 at P2 N2
  simp -implicitDefEqProofs (disch:=first|exact dz _|fail) only [↓qJ,qK,qL,qA,qB,qC,qD,qE,↓reduceIte,qG,qH,qI,gt,hq,x1a,x1b,x1d]
  refine trCall_of (sTo _ _ hn) ?_
  rintro v h3 ⟨rfl,rfl⟩
  simp -implicitDefEqProofs (disch:=first|exact dz _|fail) only [↓qJ,qK,qL,qA,qB,qC,qD,qE,↓reduceIte,qG,qH,qI,gt,hq,y1,y3,y4,sb,sameO_some,x1a,x1b,x1d]
  subst hQ
  exact ⟨γ,P2,N1.trans N2⟩
end
end Go.Proofs.Ytnbnpjhlflcjeaa.Id
namespace Go.Proofs.Ytnbnpjhlflcjeaa.Id
open Go Go.AM Go.Proofs.Ytnbnpjhlflcjeaa.AmGF
open Nat renaming reduceAdd → qA,reduceLeDiff → qB,reduceEqDiff → qC,reduceLT → qE
open Int renaming reduceToNat → qD,reduceEq → qG,reduceLT → qH,reduceLE → qI
section
variable {h0 h h':AHeap} {K:Nat→Tag} {γ:GI} {R:Run}
theorem exec_cases {k j:Nat} {z:PIns} {choice:Int} {R':Run} (hp:R.execute k j z choice=some R') :
  (z.op=1∨z.op=2∨z.op=24∨z.op=25∨z.op=46∨z.op=47∨z.op=48∨z.op=49∨z.op=50∨z.op=51∨z.op=52) ∨
  (z.op=3∨z.op=4∨z.op=5∨z.op=6∨z.op=7∨z.op=8∨z.op=9∨z.op=10∨z.op=11∨z.op=12∨z.op=13∨z.op=14∨z.op=23) ∨
  (z.op=26∨z.op=27∨z.op=28∨z.op=29∨z.op=30∨z.op=31∨z.op=32∨z.op=33∨z.op=34∨z.op=35∨z.op=36∨z.op=37∨z.op=38∨z.op=39∨z.op=40∨z.op=41∨z.op=42∨z.op=43∨z.op=44∨z.op=45) ∨
  (z.op=15∨z.op=16∨z.op=17∨z.op=18∨z.op=19∨z.op=20∨z.op=21∨z.op=22):=by
 have key:1≤z.op∧z.op≤52:=by
  by_cases c:1≤z.op∧z.op≤52
  ·exact c
  ·exfalso
   have w:isWhole z.op=false:=by simp [isWhole];omega
   have m:isMem z.op=false:=by simp [isMem];omega
   have cl:isCall z.op=false:=by simp [isCall];omega
   have ch:isChan z.op=false:=by simp [isChan];omega
   have fl:isFloat z.op=false:=by simp [isFloat];omega
   have n:∀ c:Int,(1≤c∧c≤52)→¬ z.op=c:=fun q hq e=>c (by omega)
   unfold Run.execute at hp
   simp [w,m,cl,ch,fl,n 1 (by omega),n 2 (by omega),n 24 (by omega),n 25 (by omega),n 46 (by omega),n 47 (by omega),n 48 (by omega),n 49 (by omega),n 50 (by omega),n 51 (by omega),n 52 (by omega)] at hp
 omega
theorem execute (P:RunP h γ R) {k j i:Nat} {r:Routine} {f:Frame} {x:Nat×List Nat} (a:At h γ R k j r f x i) {sv iv lv vv fv:AVal} {la:List (Int×AVal)} (s:RtV h γ.K k x.1 x.2 r fv) (q:FrV h γ.K k j i f sv iv lv vv la) {z:PIns} {zv:AVal} (hz:Ro h γ.K fun h=>SlRd h 1 encK zv z.list) {choice:Int} {R':Run} (hp:R.execute k j z choice=some R') :
  CallP AP 39 [.ptr γ.d 0 0,.ptr x.1 0 0,.ptr i 0 0,.agg (rowI z zv),.int .u64 choice] h fun v h'=>∃ γ',RunP h' γ' R'∧Nxt h h' γ γ':=by
 rcases exec_cases hp with c | c | c | c
 ·exact exec1 P a s q hz hp c
 ·exact exec2 P a s q hz hp c
 ·exact exec3 P a s q hz hp c
 ·exact exec4 P a s q hz hp c
set_option maxHeartbeats 8000000 in
theorem step (P:RunP h γ R) {g choice:Int} {e:Int} {R':Run} (hp:R.step g choice=some (e,R')):CallP AP 17 [.ptr γ.d 0 0,.int .i64 g,.int .u64 choice] h fun v h'=>v=.int .i64 e∧∃ γ',RunP h' γ' R'∧Nxt h h' γ γ':=by
 refine callP (rfl:Tr.get AP 17=some A17) ?_
 generalize hQ:(fun (r:AVal) (h':AHeap)=>_)=Q
 have ho:=P.obj
 have hlt:=P.ltd
 have hgl:=P.gs.len
 have hll:=P.gsAll.1
 have eg:(γ.gs.map (·.1)).length=R.gs.length:=by rw [List.length_map];exact hll
 rw [eg] at hgl
 unfold Run.step at hp
 by_cases c1:g<0
 ·have hn:at? R.gs g=none:=by unfold at?;rw [if_neg (by omega)]
  rw [hn] at hp
  cases hp
  have d1:decide (g<0)=true:=decide_eq_true c1
  simp -implicitDefEqProofs (disch:=first|exact dz _|fail) only [↓qJ,qK,qL,qA,qB,qC,qD,qE,↓reduceIte,qG,qH,qI,d1]
  subst hQ
  exact ⟨rfl,γ,P,Nxt.refl _ _⟩
 have d1:decide (g<0)=false:=decide_eq_false c1
 by_cases c2:(R.gs.length:Int)≤g
 ·have hn:at? R.gs g=none:=by unfold at?;rw [if_pos (by omega)];exact List.getElem?_eq_none (by omega)
  rw [hn] at hp
  cases hp
  have d2:decide ((R.gs.length:Int)≤g)=true:=decide_eq_true c2
  simp -implicitDefEqProofs (disch:=first|exact dz _|fail) only [↓qJ,qK,qL,qA,qB,qC,qD,qE,↓reduceIte,qG,qH,qI,d1,ho,hgl,d2]
  subst hQ
  exact ⟨rfl,γ,P,Nxt.refl _ _⟩
 have d2:decide ((R.gs.length:Int)≤g)=false:=decide_eq_false c2
 have hr0:R.gs[g.toNat]?=some (R.gs[g.toNat]'(by omega)):=List.getElem?_eq_getElem (by omega)
 obtain ⟨r,hr⟩:∃ r,R.gs[g.toNat]?=some r:=⟨_,hr0⟩
 have hra:at? R.gs g=some r:=by unfold at?;rw [if_pos (by omega)];exact hr
 rw [hra] at hp
 simp only at hp
 obtain ⟨x,fv,hx,s⟩:=P.rt hr
 have hro:=s.obj
 have hrlt:=s.lt
 have hgx:at? (γ.gs.map (·.1)) g=some x.1:=by unfold at?;rw [if_pos (by omega),List.getElem?_map,hx];rfl
 obtain ⟨id,gn,off,vs,x1,x2,x3,x4⟩:=P.gs.ix (enc:=fun id=>.ptr id 0 0) hgx
 cases c3:R.ended with
 | true =>
  rw [if_pos (.inl c3)] at hp
  cases hp
  simp -implicitDefEqProofs (disch:=first|exact dz _|fail) only [↓qJ,qK,qL,qA,qB,qC,qD,qE,↓reduceIte,qG,qH,qI,d1,ho,hgl,d2,c3]
  subst hQ
  exact ⟨rfl,γ,P,Nxt.refl _ _⟩
 | false =>
  by_cases c4:r.state=1
  ·rw [if_neg (by rintro (q | q);rw [c3] at q;cases q;exact q c4)] at hp
   have d4:(!decide (r.state=1))=false:=by simp [c4]
   have nid:id≠γ.d:=fun e=>by
    obtain ⟨F,S,kF⟩:=P.gs
    rcases S with ⟨e1,_⟩ | ⟨id',g',off',vs',e1,e2,_,_,_,e6⟩
    ·rw [e1] at x1;have:=x1 .i64;simp [ixV] at this
    ·have h1:=x1 .i64
     rw [e1] at h1
     simp only [ixV] at h1
     split at h1
     ·simp only [Option.some.injEq,Prod.mk.injEq,AVal.ptr.injEq,and_true] at h1
      obtain ⟨rfl,_⟩:=h1
      have h2:=kF id' (by simp [e6])
      rw [e] at h2
      exact Tag.noConfusion (h2.symm.trans P.kd)
     ·cases h1
   have nrd:x.1≠γ.d:=fun e=>by have:=s.kid;rw [e] at this;exact Tag.noConfusion (this.symm.trans P.kd)
   have C1:Chg (·=.d) h (h.set γ.d (.cells 0 false [γ.tv,γ.gv,γ.fv,γ.glv,γ.thv,γ.gsv,.int .u64 R.clock,γ.trv,.bool false,.int .i64 g])) γ.K γ.K:=(Chg.refl (·=.d) h γ.K).set (fun _=>P.kd) _
   have ob1:(h.set γ.d (.cells 0 false [γ.tv,γ.gv,γ.fv,γ.glv,γ.thv,γ.gsv,.int .u64 R.clock,γ.trv,.bool false,.int .i64 g])).get γ.d=.cells 0 false [γ.tv,γ.gv,γ.fv,γ.glv,γ.thv,γ.gsv,.int .u64 R.clock,γ.trv,.bool R.ended,.int .i64 g]:=by rw [c3];exact AHeap.get_set_same _ _ _
   obtain ⟨P1,N1⟩:=P.setD C1 ob1
   have s1:=s.keep C1 Tag.noConfusion Tag.noConfusion Tag.noConfusion (fun k=>⟨Tag.noConfusion,Tag.noConfusion,Tag.noConfusion⟩)
   have hro1:=s1.obj
   have hrlt1:=s1.lt
   have x1':=fun k=>ix_keep (h':=h.set γ.d (.cells 0 false [γ.tv,γ.gv,γ.fv,γ.glv,γ.thv,γ.gsv,.int .u64 R.clock,γ.trv,.bool false,.int .i64 g])) (x1 k) (AHeap.get_set_ne _ _ nid)
   simp -implicitDefEqProofs (disch:=first|exact dz _|fail) only [↓qJ,qK,qL,qA,qB,qC,qD,qE,↓reduceIte,qG,qH,qI,d1,ho,hgl,d2,c3,x1,x1',x2,x4,hro,d4,nid,nrd]
   generalize h.set γ.d (.cells 0 false [γ.tv,γ.gv,γ.fv,γ.glv,γ.thv,γ.gsv,.int .u64 R.clock,γ.trv,.bool false,.int .i64 g])=h1 at *
   simp only [Option.bind_eq_some_iff,Option.map_eq_some_iff,Prod.mk.injEq] at hp
   obtain ⟨R3,hact,R4,hend,rfl,rfl⟩:=hp
   unfold Run.act at hact
   simp only [hr,Option.bind_some] at hact
   unfold Run.ending at hend
   simp only [Option.bind_eq_some_iff] at hend
   obtain ⟨_,hglim,hend⟩:=hend
   have hglim:=lim_lt hglim
   cases c5:r.hit with
   | true =>
    rw [if_pos c5] at hact
    simp -implicitDefEqProofs (disch:=first|exact dz _|fail) only [↓qJ,qK,qL,qA,qB,qC,qD,qE,↓reduceIte,qG,qH,qI,hro1]
    have C2:=(Chg.refl (·=.rt g.toNat) h1 γ.K).set (i:=x.1) (fun _=>s.kid) (.cells 0 false [.int .i64 r.state,.int .u64 r.till,.bool r.sleeps,fv,.int .u64 r.serial,.bool r.panics,.int .i64 r.number,.bool false])
    obtain ⟨P2,N2⟩:=P1.setRow0 (r':={ r with hit:=false }) C2 hr hx s1 rfl (AHeap.get_set_same _ _ _)
    refine callI_of (panic P2 hact) ?_
    rintro v h3 ⟨γ3,P3,N3⟩
    have N13:=(N1.trans N2).trans N3
    have ho3:=P3.obj
    have hlt3:=P3.ltd
    rw [N13.d] at ho3 hlt3
    cases c6:R3.ended with
    | true =>
     rw [if_neg (fun q=>by rw [c6] at q;cases q.1)] at hend
     cases hend
     simp -implicitDefEqProofs (disch:=first|exact dz _|fail) only [↓qJ,qK,qL,qA,qB,qC,qD,qE,↓reduceIte,qG,qH,qI,ho3,c6]
     subst hQ
     exact ⟨rfl,γ3,P3,N13⟩
    | false =>
     simp -implicitDefEqProofs (disch:=first|exact dz _|fail) only [↓qJ,qK,qL,qA,qB,qC,qD,qE,↓reduceIte,qG,qH,qI,ho3,c6]
     rw [←N13.d]
     refine callI_of (stuckG P3 hglim) ?_
     rintro v h4 ⟨rfl,rfl⟩
     cases c7:R3.stuck with
     | true =>
      rw [if_pos ⟨c6,c7⟩] at hend
      simp -implicitDefEqProofs (disch:=first|exact dz _|fail) only [↓qJ,qK,qL,qA,qB,qC,qD,qE,↓reduceIte,qG,qH,qI]
      refine callI_of (tell P3 hend) ?_
      rintro v h5 ⟨γ5,P5,N5⟩
      simp -implicitDefEqProofs (disch:=first|exact dz _|fail) only [↓qJ,qK,qL,qA,qB,qC,qD,qE,↓reduceIte,qG,qH,qI]
      subst hQ
      exact ⟨rfl,γ5,P5,N13.trans N5⟩
     | false =>
      rw [if_neg (fun q=>by rw [c7] at q;cases q.2)] at hend
      cases hend
      simp -implicitDefEqProofs (disch:=first|exact dz _|fail) only [↓qJ,qK,qL,qA,qB,qC,qD,qE,↓reduceIte,qG,qH,qI]
      subst hQ
      exact ⟨rfl,γ3,P3,N13⟩
   | false =>
    rw [if_neg (by rw [c5];simp)] at hact
    simp only [Option.bind_eq_some_iff] at hact
    obtain ⟨_,hb,f,hf,F,hF,z,hz,hact⟩:=hact
    have hb:=lim_lt hb
    obtain ⟨i,hi,sv,iv,lv,vv,la,q⟩:=s1.fr hf
    simp -implicitDefEqProofs (disch:=first|exact dz _|fail) only [↓qJ,qK,qL,qA,qB,qC,qD,qE,↓reduceIte,qG,qH,qI,hro1]
    refine callI_of (top s1 (i:=i) hi (by omega)) ?_
    rintro v h2 ⟨rfl,rfl⟩
    have ho2:=P1.obj
    have hlt2:=P1.ltd
    have hq:=q.obj
    have hqlt:=q.lt
    obtain ⟨idp,gp,offp,vsp,rop,row,p1,p2,p3,p4,p5,p6,p7,svp,rvp,cvp,rfl,s1p,s2p,s3p⟩:=P1.prog.f.ix hF
    have p8:vsp[offp+3]?=some cvp:=row_at p6 (by omega)
    obtain ⟨idz,gz,offz,vsz,roz,rowz,z1,z2,z3,z4,z5,z6,z7,zv,rfl,sz⟩:=s3p.ix hz
    have zc:=sz.now.cells
    have zb:=sz.now.beq
    have fb:=P1.prog.f.beq
    have cb:=s3p.beq
    have p1':=fun o k=>ix_keep (h':=h2.push o) (p1 k) (AHeap.get_push_ne _ _ (by omega))
    have z1':=fun o k=>ix_keep (h':=h2.push o) (z1 k) (AHeap.get_push_ne _ _ (by omega))
    have c2:=Chg.tmp h2 γ.K (.cells 0 false [.int .i64 0,.int .i64 0,.int .i64 0,.int .i64 0,.int .u64 0,.nils]) (.cells 0 false (rowI z zv))
    have P2:=P1.tmp c2
    have q2:=q.keep c2 (fun q=>q) (fun q=>q) (fun q=>q) (fun q=>q)
    have sz2:=sz.keep c2 (fun q=>q)
    have kn:γ.K h2.n=.no:=P1.kn
    have hq2:=q2.obj
    have hqlt2:=q2.lt
    have gt:((h2.push (.cells 0 false [.int .i64 0,.int .i64 0,.int .i64 0,.int .i64 0,.int .u64 0,.nils])).set h2.n (.cells 0 false (rowI z zv))).get h2.n=.cells 0 false (rowI z zv):=AHeap.get_set_same _ _ _
    have lt:h2.n<((h2.push (.cells 0 false [.int .i64 0,.int .i64 0,.int .i64 0,.int .i64 0,.int .u64 0,.nils])).set h2.n (.cells 0 false (rowI z zv))).n:=by simp
    have N2:=N1.trans (Nxt.tmp (γ:=γ) c2)
    simp only [rowI] at gt P2 q2 hq2 sz2 N2 lt
    simp -implicitDefEqProofs (disch:=first|exact dz _|fail) only [↓qJ,qK,qL,qA,qB,qC,qD,qE,↓reduceIte,qG,qH,qI,ho2,hq,p1,p1',p2,p8,z1,z1',z2,z5,z6,zc.1,zc.2,zb,fb,cb]
    generalize ((h2.push (.cells 0 false [.int .i64 0,.int .i64 0,.int .i64 0,.int .i64 0,.int .u64 0,.nils])).set h2.n (.cells 0 false [.int .i64 z.op,.int .i64 z.a,.int .i64 z.b,.int .i64 z.c,.int .u64 z.imm,zv]))=h5 at *
    have cc:=(Chg.refl (·=.fr g.toNat (r.frames.length-1)) h5 γ.K).set (i:=i) (fun _=>q2.kid) (.cells 0 false [.int .i64 f.fn,.int .i64 (i64 (f.pc+1)),.int .u64 f.serial,sv,iv,lv,.int .i64 f.mode,.bool f.ending,vv])
    have s2:=s1.keep c2 (fun q=>q) (fun q=>q) (fun q=>q) (fun k=>⟨fun q=>q,fun q=>q,fun q=>q⟩)
    have q3:FrV (h5.set i (.cells 0 false [.int .i64 f.fn,.int .i64 (i64 (f.pc+1)),.int .u64 f.serial,sv,iv,lv,.int .i64 f.mode,.bool f.ending,vv])) γ.K g.toNat (r.frames.length-1) i { f with pc:=i64 (f.pc+1) } sv iv lv vv la:=⟨q2.kid,q2.lt,AHeap.get_set_same _ _ _,q2.slots.keep cc Tag.noConfusion,q2.into.keep cc Tag.noConfusion,q2.lates.keep cc Tag.noConfusion,q2.args.mono fun _ _ _ _ _ q=>⟨q.1,q.2.keep cc Tag.noConfusion⟩,q2.saved.keep cc Tag.noConfusion⟩
    obtain ⟨P6,N6⟩:=P2.setFr cc (fun t q=>.inl q) (fun j hj=>P2.k0 j hj) ⟨hr,hf,hx,hi⟩ ⟨_,_,_,_,_,q3⟩
    have s3:=s2.setF cc (fun t q=>.inl q) hf hi ⟨_,_,_,_,_,q3⟩
    have a3:At (h5.set i (.cells 0 false [.int .i64 f.fn,.int .i64 (i64 (f.pc+1)),.int .u64 f.serial,sv,iv,lv,.int .i64 f.mode,.bool f.ending,vv])) γ (({ R with g:=g }:Run).setR g.toNat (r.setF (r.frames.length-1) { f with pc:=i64 (f.pc+1) })) g.toNat (r.frames.length-1) (r.setF (r.frames.length-1) { f with pc:=i64 (f.pc+1) }) { f with pc:=i64 (f.pc+1) } x i :=
     ⟨List.getElem?_set_self (List.getElem?_eq_some_iff.1 hr).1,List.getElem?_set_self (List.getElem?_eq_some_iff.1 hf).1,hx,hi⟩
    have hex:=execute P6 a3 s3 q3 (sz2.keep cc Tag.noConfusion) hact
    unfold i64 at hex
    refine callI_of hex ?_
    rintro v h3 ⟨γ3,P3,N3⟩
    have N13:=(N2.trans N6).trans N3
    have ho3:=P3.obj
    have hlt3:=P3.ltd
    rw [N13.d] at ho3 hlt3
    cases c6:R3.ended with
    | true =>
     rw [if_neg (fun q=>by rw [c6] at q;cases q.1)] at hend
     cases hend
     simp -implicitDefEqProofs (disch:=first|exact dz _|fail) only [↓qJ,qK,qL,qA,qB,qC,qD,qE,↓reduceIte,qG,qH,qI,ho3,c6]
     subst hQ
     exact ⟨rfl,γ3,P3,N13⟩
    | false =>
     simp -implicitDefEqProofs (disch:=first|exact dz _|fail) only [↓qJ,qK,qL,qA,qB,qC,qD,qE,↓reduceIte,qG,qH,qI,ho3,c6]
     rw [←N13.d]
     refine callI_of (stuckG P3 hglim) ?_
     rintro v h4 ⟨rfl,rfl⟩
     cases c7:R3.stuck with
     | true =>
      rw [if_pos ⟨c6,c7⟩] at hend
      simp -implicitDefEqProofs (disch:=first|exact dz _|fail) only [↓qJ,qK,qL,qA,qB,qC,qD,qE,↓reduceIte,qG,qH,qI]
      refine callI_of (tell P3 hend) ?_
      rintro v h5 ⟨γ5,P5,N5⟩
      simp -implicitDefEqProofs (disch:=first|exact dz _|fail) only [↓qJ,qK,qL,qA,qB,qC,qD,qE,↓reduceIte,qG,qH,qI]
      subst hQ
      exact ⟨rfl,γ5,P5,N13.trans N5⟩
     | false =>
      rw [if_neg (fun q=>by rw [c7] at q;cases q.2)] at hend
      cases hend
      simp -implicitDefEqProofs (disch:=first|exact dz _|fail) only [↓qJ,qK,qL,qA,qB,qC,qD,qE,↓reduceIte,qG,qH,qI]
      subst hQ
      exact ⟨rfl,γ3,P3,N13⟩
  ·rw [if_pos (.inr c4)] at hp
   cases hp
   have d4:(!decide (r.state=1))=true:=by simp [c4]
   simp -implicitDefEqProofs (disch:=first|exact dz _|fail) only [↓qJ,qK,qL,qA,qB,qC,qD,qE,↓reduceIte,qG,qH,qI,d1,ho,hgl,d2,c3,x1,x2,x4,hro,d4]
   subst hQ
   exact ⟨rfl,γ,P,Nxt.refl _ _⟩
end
end Go.Proofs.Ytnbnpjhlflcjeaa.Id
namespace Go.Proofs.Ytnbnpjhlflcjeaa.Id
open Go Go.AM Go.Proofs.Ytnbnpjhlflcjeaa.AmGF
open Nat renaming reduceAdd → qA,reduceLeDiff → qB,reduceEqDiff → qC,reduceLT → qE
open Int renaming reduceToNat → qD,reduceEq → qG,reduceLT → qH,reduceLE → qI
theorem flat_setC {α:Type} {enc:α→List AVal} {n:Nat} (hE:∀ a,(enc a).length=n) {c:Nat} {x:AVal} (hc:c<n) {a a':α} (ha:enc a'=(enc a).set c x):∀ {l:List α} {j:Nat},l[j]?=some a→(l.flatMap enc).set (j*n+c) x=(l.set j a').flatMap enc
 | [],j,h=>by simp at h
 | b::l,0,h=>by
  simp at h;subst h
  rw [List.flatMap_cons,List.set_cons_zero,List.flatMap_cons,Nat.zero_mul,Nat.zero_add,List.set_append_left _ _ (by rw [hE];exact hc),ha]
 | b::l,j+1,h=>by
  have ih:=flat_setC hE hc ha (l:=l) (j:=j) (by simpa using h)
  rw [List.flatMap_cons,List.set_cons_succ,List.flatMap_cons,←ih,List.set_append_right _ _ (by rw [hE,Nat.add_mul];omega),hE]
  congr 2
  rw [Nat.add_mul];omega
theorem SlOf.updC {α:Type} {enc:α→List AVal} {n:Nat} {h:AHeap} {v:AVal} {l:List α} {G:List Nat} (s:SlOf h n enc v l G) (hE:∀ a,(enc a).length=n) {j:Nat} {a:α} (hj:l[j]?=some a) {c:Nat} (hc:c<n) :
  ∃ id g off vs,v=.sl id g off l.length n∧h.get id=.cells g false vs∧id<h.n∧off+j*n+n≤vs.length∧G=[id]∧(∀ k:IntKind,ixV h n v (.int k (j:Int))=some (.ptr id g (off+j*n),h))∧(vs.drop (off+j*n)).take n=enc a ∧
   ∀ (x:AVal) (a':α),enc a'=(enc a).set c x→SlOf (h.set id (.cells g false (vs.take (off+j*n+c)++[x]++vs.drop (off+j*n+c+1)))) n enc v (l.set j a') G:=by
 have hjl:=(List.getElem?_eq_some_iff.1 hj).1
 rcases s with ⟨_,e,_⟩ | ⟨id,g,off,vs,e1,e2,e3,e4,e5,e6⟩
 ·subst e;simp at hjl
 ·have h1:=mul_lt_len (esz:=n) hjl
  have hfl:=AM.flat_len (l:=l) hE
  have hat:(vs.drop (off+j*n)).take n=enc a:=by
   rw [←List.drop_drop,e5,AM.flat_drop hE]
   have:l.drop j=a::l.drop (j+1):=by
    rw [List.drop_eq_getElem_cons hjl];congr 1
    exact (List.getElem?_eq_some_iff.1 hj).2
   rw [this,List.flatMap_cons,List.take_append_of_le_length (by rw [hE];omega),List.take_of_length_le (by rw [hE];omega)]
  refine ⟨id,g,off,vs,e1,e2,e3,by omega,e6,fun k=>?_,hat,fun x a' ha=>.inr ⟨id,g,off,_,by rw [List.length_set];exact e1,AHeap.get_set_same _ _ _,e3,?_,?_,e6⟩⟩
  ·rw [e1]
   have:=AM.ix_sl (h:=h) (k:=k) (n:=(j:Int)) (len:=l.length) (esz:=n) (off:=off) e2 (by omega) (by omega)
   simpa using this
  ·rw [List.length_set];simp only [List.length_append,List.length_take,List.length_drop,List.length_cons,List.length_nil];omega
  ·have e7:vs.take (off+j*n+c)++[x]++vs.drop (off+j*n+c+1)=vs.set (off+j*n+c) x:=by
    rw [List.set_eq_take_append_cons_drop,if_pos (by omega),List.append_assoc];rfl
   rw [e7,List.drop_set,if_neg (by omega),e5,show off+j*n+c-off=j*n+c by omega,flat_setC hE hc ha hj]
theorem SlIn.elems {α:Type} {enc:α→List AVal} {n:Nat} {h:AHeap} {v:AVal} {l:List α} (s:SlIn h n enc v l):h.elems n v=some (l.length,l.flatMap enc):=by
 rcases s with s | ⟨rfl,id,off,rfl,hid,_⟩
 ·exact s.elems
 ·simp [AHeap.elems,hid]
theorem app_nil {α:Type} {enc:α→List AVal} {n:Nat} {h:AHeap} {y:AVal} {l:List α} (t:SlIn h n enc y l) (hE:∀ a,(enc a).length=n) (hC:∀ a,a∈l→(enc a).all (·.cell)=true) {bytes:Nat} (hb:l.length*bytes≤1099511627776) {k:AVal→AHeap→Prop}
  (w:∀ v' h' F',SlOf h' n enc v' l F'→HFrame h h' [] F'→k v' h'):AM.wpOp (h.app n bytes .nils y) k:=by
 have hcs:(l.flatMap enc).all (·.cell)=true:=by
  rw [List.all_eq_true];intro x hx
  obtain ⟨a,ha1,ha⟩:=List.mem_flatMap.1 hx
  exact List.all_eq_true.1 (hC a ha1) x ha
 unfold AHeap.app
 rw [SlIn.elems t,Option.bind_some]
 simp only
 by_cases h0:l.length=0
 ·rw [if_pos h0]
  have:l=[]:=List.eq_nil_of_length_eq_zero h0
  subst this
  exact w _ _ [] (.inl ⟨rfl,rfl,rfl⟩) (HFrame.refl (by simp))
 ·rw [if_neg h0,if_pos ⟨hb,hcs⟩]
  exact w _ _ [h.n] (.inr ⟨h.n,0,0,_,rfl,AHeap.get_push_same _ _,by simp,by rw [flat_len hE];simp,by simp,rfl⟩) ⟨by simp,rfl,fun j hj _=>AHeap.get_push_ne h _ (by omega),fun j hj=>.inr (by simp at hj;omega),fun j hj=>by simp at hj;simp;omega⟩
theorem SlR.rows {α:Type} {h:AHeap} {m:Nat} {R:α→List AVal→Prop} {v:AVal} {l:List α} (s:SlR h m R v l) (hc:∀ a row,R a row→row.all (·.cell)=true):∃ rows:List (Row m),SlIn h m (fun r=>r.1) v rows∧rows.length=l.length∧∀ (i:Nat) (a:α) (r:Row m),l[i]?=some a→rows[i]?=some r→R a r.1:=by
 rcases s with ⟨rfl,rfl⟩ | ⟨id,off,rfl,rfl,e1,e2⟩ | ⟨id,g,off,vs,ro,rows,rfl,e1,e2,e0,e3,e4,e5,e6⟩
 ·exact ⟨[],.inl (.inl ⟨rfl,rfl⟩),rfl,by simp⟩
 ·exact ⟨[],.inr ⟨rfl,id,off,rfl,e1,e2⟩,rfl,by simp⟩
 ·have hall:∀ row,row∈rows→row.length=m∧row.all (·.cell)=true:=fun row hr=>by
   obtain ⟨i,hi⟩:=List.getElem?_of_mem hr
   have hil:=(List.getElem?_eq_some_iff.1 hi).1
   have ha:l[i]?=some l[i]:=List.getElem?_eq_getElem (by omega)
   exact ⟨e5 row hr,hc _ _ (e6 i _ row ha hi)⟩
  have hv:(rows.attach.map fun r=>(⟨r.1,hall r.1 r.2⟩:Row m)).flatMap (fun r=>r.1)=rows.flatten:=by
   rw [List.flatMap_map]
   show rows.attach.flatMap (fun r=>r.1)=_
   rw [List.flatMap_def,List.attach_map_subtype_val]
  refine ⟨rows.attach.map fun r=>⟨r.1,hall r.1 r.2⟩,.inl (.inr ⟨id,g,off,vs,ro,by simp [e4],e1,e2,by simpa [e4] using e0,?_⟩),by simp [e4],fun i a r ha hr=>?_⟩
  ·rw [hv,←e3];simp [e4]
  ·rw [List.getElem?_map,Option.map_eq_some_iff] at hr
   obtain ⟨x,hx,rfl⟩:=hr
   refine e6 i a x.1 ha ?_
   have:=congrArg (Option.map Subtype.val) hx
   rw [←List.getElem?_map,List.attach_map_subtype_val] at this
   exact this
def KS (S:List Nat):Nat→Tag:=fun j=>if j∈S then .ro else .no
theorem KS.in {S:List Nat} {j:Nat} (h:j∈S):KS S j=.ro:=if_pos h
theorem KS.out {S:List Nat} {j:Nat} (h:j ∉ S):KS S j=.no:=if_neg h
section
variable {h h' h1:AHeap}
theorem KS.chg {S F A A':List Nat} (f:HFrame h h' A A') (hA:∀ j,j∈A→j ∉ S) (hF:∀ j,j∈F→h.n≤j):Chg (·=.no) h h' (KS S) (KS (S++F)) :=
 (Chg.of (T:=(·=Tag.no)) (K:=KS S) f fun j hj _=>KS.out (hA j hj)).tag fun j hj=>by
  unfold KS
  by_cases c:j∈S
  ·rw [if_pos c,if_pos (by simp [c])]
  ·rw [if_neg c,if_neg (fun q=>by
    rcases List.mem_append.1 q with q | q
    ·exact c q
    ·have:=hF j q;omega)]
theorem RowsOf.slK {α:Type} {m:Nat} {R R':α→List AVal→Prop} {v:AVal} {l:List α} {F:List Nat} {K:Nat→Tag} (s:RowsOf h m R v l F) (hK:∀ j,j∈F→K j=.ro) (i:∀ a row,R a row→R' a row):SlK h K m R' v l:=by
 obtain ⟨rows,s1,s2,s3⟩:=s
 rcases s1 with ⟨a,b,_⟩ | ⟨id,g,off,vs,a,b,c,d,e,f⟩
 ·subst a b
  exact .inl ⟨rfl,List.eq_nil_of_length_eq_zero s2.symm⟩
 ·refine .inr ⟨id,g,off,vs,false,rows.map fun r=>r.1,by rw [←s2];exact a,hK id (by simp [f]),c,b,by rw [←s2];omega,?_,by simpa using s2,?_,?_⟩
  ·rw [←rows_flat,←e,←s2,List.take_of_length_le (by simp;omega)]
  ·intro row hr
   obtain ⟨r,_,rfl⟩:=List.mem_map.1 hr
   exact r.2.1
  ·intro i' a row h1 h2
   rw [List.getElem?_map] at h2
   cases hr:rows[i']? with
   | none=>rw [hr] at h2;cases h2
   | some r=>rw [hr] at h2;simp only [Option.map_some,Option.some.injEq] at h2;subst h2;exact i _ _ (s3 i' a r h1 hr)
theorem Ro.more {K K':Nat→Tag} {φ:AHeap→Prop} (r:Ro h K φ) (i:∀ j,K j=.ro→K' j=.ro):Ro h K' φ:=fun h' hn hk=>r h' hn fun j hj e=>hk j hj (i j e)
theorem SlK.more {K K':Nat→Tag} {α:Type} {m:Nat} {R R':α→List AVal→Prop} {v:AVal} {l:List α} (s:SlK h K m R v l) (i:∀ j,K j=.ro→K' j=.ro) (k:∀ a row,R a row→R' a row):SlK h K' m R' v l:=by
 rcases s with s | ⟨id,g,off,vs,ro,rows,e1,e2,e3,e4,e5,e6,e7,e8,e9⟩
 ·exact .inl s
 ·exact .inr ⟨id,g,off,vs,ro,rows,e1,i _ e2,e3,e4,e5,e6,e7,e8,fun i' a row h1 h2=>k _ _ (e9 i' a row h1 h2)⟩
theorem TypeO.more {K K':Nat→Tag} {t:Bool×List Int} {row:List AVal} (s:TypeO h K t row) (i:∀ j,K j=.ro→K' j=.ro):TypeO h K' t row:=by
 obtain ⟨v,e,r⟩:=s;exact ⟨v,e,r.more i⟩
theorem InsO.more {K K':Nat→Tag} {t:PIns} {row:List AVal} (s:InsO h K t row) (i:∀ j,K j=.ro→K' j=.ro):InsO h K' t row:=by
 obtain ⟨v,e,r⟩:=s;exact ⟨v,e,r.more i⟩
theorem FuncO.more {K K':Nat→Tag} {t:PFunc} {row:List AVal} (s:FuncO h K t row) (i:∀ j,K j=.ro→K' j=.ro):FuncO h K' t row:=by
 obtain ⟨sv,rv,cv,e,r1,r2,r3⟩:=s;exact ⟨sv,rv,cv,e,r1.more i,r2.more i,r3.more i fun _ _ q=>q.more i⟩
theorem SlOf.ro {α:Type} {enc:α→List AVal} {n:Nat} {v:AVal} {l:List α} {F S:List Nat} (s:SlOf h n enc v l F) (hF:∀ j,j∈F→j∈S):Ro h (KS S) fun h=>SlRd h n enc v l:=Ro.of (SlX.of s) fun j hj=>KS.in (hF j hj)
end
def limI (i:PIns):Bool:=decide (i.list.length<1000000)
def limF (f:PFunc):Bool:=decide (f.slots.length<1000000)&&decide (f.results.length<1000000)&&decide (f.code.length<1000000)&&f.code.all limI
def limP (p:PProg):Bool:=decide (p.types.length<1000000)&&decide (p.globals.length<1000000)&&decide (p.funcs.length<1000000)&&p.types.all (fun t=>decide (t.2.length<1000000))&&p.funcs.all limF
end Go.Proofs.Ytnbnpjhlflcjeaa.Id
namespace Go.Proofs.Ytnbnpjhlflcjeaa.Id
open Go Go.AM Go.Proofs.Ytnbnpjhlflcjeaa.AmGF
open Nat renaming reduceAdd → qA,reduceLeDiff → qB,reduceEqDiff → qC,reduceLT → qE
open Int renaming reduceToNat → qD,reduceEq → qG,reduceLT → qH,reduceLE → qI
section
variable {h h' h1:AHeap}
theorem insR_cells {h:AHeap} {i:PIns} {row:List AVal} (r:InsR h i row):row.all (·.cell)=true:=by
 obtain ⟨_,v,rfl,s⟩:=r
 simp [SlIn.cellv s];exact ⟨rfl,rfl,rfl,rfl,rfl⟩
theorem limP_get {p:PProg} (h:limP p=true):p.types.length<1000000∧p.globals.length<1000000∧p.funcs.length<1000000∧(∀ t,t∈p.types→t.2.length<1000000)∧∀ f,f∈p.funcs→f.slots.length<1000000∧f.results.length<1000000∧f.code.length<1000000∧∀ i,i∈f.code→i.list.length<1000000:=by
 simp only [limP,limF,limI,Bool.and_eq_true,decide_eq_true_eq,List.all_eq_true] at h
 obtain ⟨⟨⟨⟨a,b⟩,c⟩,d⟩,e⟩:=h
 exact ⟨a,b,c,d,fun f hf=>⟨(e f hf).1.1.1,(e f hf).1.1.2,(e f hf).1.2,(e f hf).2⟩⟩
structure OwnS (h h5:AHeap) (p:PProg) (S Ft Ff:List Nat) (nt nf:Nat) (tv gv fv tq gq fq:AVal) (b r q:Nat):Prop where
 f:HFrame h h5 [] []
 box:h5.get b=.cells 0 false [tv,gv,fv]
 res:h5.get r=.cells 0 false [.nils,.nils,.nils]
 obj:h5.get q=.cells 0 false [tq,gq,fq]
 types:RowsOf h5 2 (TypeO h5 (KS S)) tq (p.types.take nt) Ft
 globals:Ro h5 (KS S) fun h=>SlRd h 1 encK gq p.globals
 funcs:RowsOf h5 4 (FuncO h5 (KS S)) fq (p.funcs.take nf) Ff
 ids:h.n≤b∧b<r∧r<q∧q<h5.n
 S0:∀ j,j∈S→h.n≤j∧j<h5.n∧j≠b∧j≠r∧j≠q
 Ft0:∀ j,j∈Ft→h.n≤j∧j<h5.n∧j≠b∧j≠r∧j≠q∧j ∉ S
 Ff0:∀ j,j∈Ff→h.n≤j∧j<h5.n∧j≠b∧j≠r∧j≠q∧j ∉ S∧j ∉ Ft
theorem KS.more {S F:List Nat} {j:Nat} (e:KS S j=.ro):KS (S++F) j=.ro:=by
 unfold KS at e ⊢
 split at e
 ·rename_i c;rw [if_pos (by simp [c])]
 ·cases e
section
variable {p:PProg} {S Ft Ff F7 Ft' Ff':List Nat} {nt nf:Nat} {tv gv fv tq gq fq tq' fq':AVal} {b r q:Nat} {h5 h8 h9:AHeap}
theorem OwnS.chg (O:OwnS h h5 p S Ft Ff nt nf tv gv fv tq gq fq b r q) (f58:HFrame h5 h8 [] []) (hF:∀ j,j∈F7→h5.n≤j∧j<h8.n):Chg (·=.no) h5 h8 (KS S) (KS (S++F7)):=KS.chg f58 (by simp) fun j hj=>(hF j hj).1
theorem OwnS.types8 (O:OwnS h h5 p S Ft Ff nt nf tv gv fv tq gq fq b r q) (f58:HFrame h5 h8 [] []) (hF:∀ j,j∈F7→h5.n≤j∧j<h8.n):RowsOf h8 2 (TypeO h8 (KS (S++F7))) tq (p.types.take nt) Ft :=
 (O.types.monoR fun _ _ q=>q.keep (O.chg f58 hF) Tag.noConfusion).frame f58.n fun j hj=>f58.get j (O.types.lt j hj) (by simp)
theorem OwnS.funcs8 (O:OwnS h h5 p S Ft Ff nt nf tv gv fv tq gq fq b r q) (f58:HFrame h5 h8 [] []) (hF:∀ j,j∈F7→h5.n≤j∧j<h8.n):RowsOf h8 4 (FuncO h8 (KS (S++F7))) fq (p.funcs.take nf) Ff :=
 (O.funcs.monoR fun _ _ q=>q.keep (O.chg f58 hF) Tag.noConfusion).frame f58.n fun j hj=>f58.get j (O.funcs.lt j hj) (by simp)
theorem OwnS.typ (O:OwnS h h5 p S Ft Ff nt nf tv gv fv tq gq fq b r q) (f58:HFrame h5 h8 [] []) (hF:∀ j,j∈F7→h5.n≤j∧j<h8.n) {t:Bool×List Int} (ht:p.types[nt]?=some t) (f9:HFrame h8 h9 Ft Ft') (s9:RowsOf h9 2 (TypeO h8 (KS (S++F7))) tq' (p.types.take nt++[t]) Ft') :
  OwnS h (h9.set q (.cells 0 false [tq',gq,fq])) p (S++F7) Ft' Ff (nt+1) nf tv gv fv tq' gq fq b r q:=by
 obtain ⟨i1,i2,i3,i4⟩:=O.ids
 have n58:=f58.n
 have n9:=f9.n
 have nF:=O.f.n
 have hA:∀ j,j∈Ft→j ∉ S++F7:=fun j hj hm=>by
  obtain ⟨a1,a2,_,_,_,a3⟩:=O.Ft0 j hj
  rcases List.mem_append.1 hm with m | m
  ·exact a3 m
  ·have:=hF j m;omega
 have hqS:q ∉ S++F7:=fun hm=>by
  rcases List.mem_append.1 hm with m | m
  ·have:=O.S0 q m;omega
  ·have:=hF q m;omega
 have ck:=O.chg f58 hF
 have c9:Chg (·=.no) h8 (h9.set q (.cells 0 false [tq',gq,fq])) (KS (S++F7)) (KS (S++F7)):=(Chg.of (T:=(·=Tag.no)) f9 fun j hj _=>KS.out (hA j hj)).set (fun _=>KS.out hqS) _
 have G:∀ j,j<h5.n→j ∉ Ft→j≠q→(h9.set q (.cells 0 false [tq',gq,fq])).get j=h5.get j:=fun j a1 a2 a3=>by
  rw [AHeap.get_set_ne _ _ a3,f9.get j (by omega) a2,f58.get j a1 (by simp)]
 refine ⟨⟨by show h.n≤h9.n;omega,by show h9.g=h.g;rw [f9.g,f58.g,O.f.g],fun j hj _=>?_,by simp,by simp⟩,?_,?_,AHeap.get_set_same _ _ _,?_,?_,?_,⟨i1,i2,i3,by show q<h9.n;omega⟩,fun j hj=>?_,fun j hj=>?_,fun j hj=>?_⟩
 ·rw [G j (by omega) (fun hm=>by have:=(O.Ft0 j hm).1;omega) (by omega)]
  exact O.f.get j hj (by simp)
 ·rw [G b (by omega) (fun hm=>(O.Ft0 b hm).2.2.1 rfl) (by omega)];exact O.box
 ·rw [G r (by omega) (fun hm=>(O.Ft0 r hm).2.2.2.1 rfl) (by omega)];exact O.res
 ·rw [take_succ_of ht]
  refine (s9.monoR fun _ _ q=>q.keep c9 Tag.noConfusion).set ?_ _
  intro hm
  rcases f9.new q hm with m | m
  ·exact (O.Ft0 q m).2.2.2.2.1 rfl
  ·omega
 ·exact (O.globals.keep ck Tag.noConfusion).keep c9 Tag.noConfusion
 ·refine ((O.funcs8 f58 hF).monoR fun _ _ q=>q.keep c9 Tag.noConfusion).frame (by show h8.n≤h9.n;omega) fun j hj=>?_
  obtain ⟨a1,a2,a3,a4,a5,a6,a7⟩:=O.Ff0 j hj
  rw [AHeap.get_set_ne _ _ a5,f9.get j (by omega) a7]
 ·rcases List.mem_append.1 hj with m | m
  ·have:=O.S0 j m;show _∧j<h9.n∧_;omega
  ·have:=hF j m;show _∧j<h9.n∧_;omega
 ·rcases f9.new j hj with m | m
  ·obtain ⟨a1,a2,a3,a4,a5,a6⟩:=O.Ft0 j m
   exact ⟨a1,by show j<h9.n;omega,a3,a4,a5,hA j m⟩
  ·have:=f9.lt j hj
   refine ⟨by omega,this,by omega,by omega,by omega,fun hm=>?_⟩
   rcases List.mem_append.1 hm with m' | m'
   ·have:=O.S0 j m';omega
   ·have:=hF j m';omega
 ·obtain ⟨a1,a2,a3,a4,a5,a6,a7⟩:=O.Ff0 j hj
  refine ⟨a1,by show j<h9.n;omega,a3,a4,a5,fun hm=>?_,fun hm=>?_⟩
  ·rcases List.mem_append.1 hm with m' | m'
   ·exact a6 m'
   ·have:=hF j m';omega
  ·rcases f9.new j hm with m | m
   ·exact a7 m
   ·omega
theorem OwnS.fnc (O:OwnS h h5 p S Ft Ff nt nf tv gv fv tq gq fq b r q) (f58:HFrame h5 h8 [] []) (hF:∀ j,j∈F7→h5.n≤j∧j<h8.n) {t:PFunc} (ht:p.funcs[nf]?=some t) (f9:HFrame h8 h9 Ff Ff') (s9:RowsOf h9 4 (FuncO h8 (KS (S++F7))) fq' (p.funcs.take nf++[t]) Ff') :
  OwnS h (h9.set q (.cells 0 false [tq,gq,fq'])) p (S++F7) Ft Ff' nt (nf+1) tv gv fv tq gq fq' b r q:=by
 obtain ⟨i1,i2,i3,i4⟩:=O.ids
 have n58:=f58.n
 have n9:=f9.n
 have nF:=O.f.n
 have hA:∀ j,j∈Ff→j ∉ S++F7:=fun j hj hm=>by
  obtain ⟨a1,a2,_,_,_,a3,_⟩:=O.Ff0 j hj
  rcases List.mem_append.1 hm with m | m
  ·exact a3 m
  ·have:=hF j m;omega
 have hqS:q ∉ S++F7:=fun hm=>by
  rcases List.mem_append.1 hm with m | m
  ·have:=O.S0 q m;omega
  ·have:=hF q m;omega
 have ck:=O.chg f58 hF
 have c9:Chg (·=.no) h8 (h9.set q (.cells 0 false [tq,gq,fq'])) (KS (S++F7)) (KS (S++F7)):=(Chg.of (T:=(·=Tag.no)) f9 fun j hj _=>KS.out (hA j hj)).set (fun _=>KS.out hqS) _
 have G:∀ j,j<h5.n→j ∉ Ff→j≠q→(h9.set q (.cells 0 false [tq,gq,fq'])).get j=h5.get j:=fun j a1 a2 a3=>by
  rw [AHeap.get_set_ne _ _ a3,f9.get j (by omega) a2,f58.get j a1 (by simp)]
 refine ⟨⟨by show h.n≤h9.n;omega,by show h9.g=h.g;rw [f9.g,f58.g,O.f.g],fun j hj _=>?_,by simp,by simp⟩,?_,?_,AHeap.get_set_same _ _ _,?_,?_,?_,⟨i1,i2,i3,by show q<h9.n;omega⟩,fun j hj=>?_,fun j hj=>?_,fun j hj=>?_⟩
 ·rw [G j (by omega) (fun hm=>by have:=(O.Ff0 j hm).1;omega) (by omega)]
  exact O.f.get j hj (by simp)
 ·rw [G b (by omega) (fun hm=>(O.Ff0 b hm).2.2.1 rfl) (by omega)];exact O.box
 ·rw [G r (by omega) (fun hm=>(O.Ff0 r hm).2.2.2.1 rfl) (by omega)];exact O.res
 ·refine ((O.types8 f58 hF).monoR fun _ _ q=>q.keep c9 Tag.noConfusion).frame (by show h8.n≤h9.n;omega) fun j hj=>?_
  obtain ⟨a1,a2,a3,a4,a5,a6⟩:=O.Ft0 j hj
  rw [AHeap.get_set_ne _ _ a5,f9.get j (by omega) (fun hm=>(O.Ff0 j hm).2.2.2.2.2.2 hj)]
 ·exact (O.globals.keep ck Tag.noConfusion).keep c9 Tag.noConfusion
 ·rw [take_succ_of ht]
  refine (s9.monoR fun _ _ q=>q.keep c9 Tag.noConfusion).set ?_ _
  intro hm
  rcases f9.new q hm with m | m
  ·exact (O.Ff0 q m).2.2.2.2.1 rfl
  ·omega
 ·rcases List.mem_append.1 hj with m | m
  ·have:=O.S0 j m;show _∧j<h9.n∧_;omega
  ·have:=hF j m;show _∧j<h9.n∧_;omega
 ·obtain ⟨a1,a2,a3,a4,a5,a6⟩:=O.Ft0 j hj
  refine ⟨a1,by show j<h9.n;omega,a3,a4,a5,fun hm=>?_⟩
  rcases List.mem_append.1 hm with m' | m'
  ·exact a6 m'
  ·have:=hF j m';omega
 ·rcases f9.new j hj with m | m
  ·obtain ⟨a1,a2,a3,a4,a5,a6,a7⟩:=O.Ff0 j m
   exact ⟨a1,by show j<h9.n;omega,a3,a4,a5,hA j m,a7⟩
  ·have:=f9.lt j hj
   refine ⟨by omega,this,by omega,by omega,by omega,fun hm=>?_,fun hm=>?_⟩
   ·rcases List.mem_append.1 hm with m' | m'
    ·have:=O.S0 j m';omega
    ·have:=hF j m';omega
   ·have:=(O.Ft0 j hm).2.1;omega
end
set_option maxHeartbeats 16000000 in
theorem own {p:PProg} {row:List AVal} (R:ProgR h p row) (hl:limP p=true):CallP AP 35 [.agg row] h fun v h'=>∃ tv gv fv S,v=.agg [tv,gv,fv]∧HFrame h h' [] []∧ProgO h' (KS S) p tv gv fv∧∀ j,j∈S→h.n≤j∧j<h'.n:=by
 obtain ⟨tv,gv,fv,rfl,RT,RG,RF⟩:=R
 obtain ⟨l1,l2,l3,l4,l5⟩:=limP_get hl
 refine callP (rfl:Tr.get AP 35=some A35) ?_
 generalize hQ:(fun (r:AVal) (h':AHeap)=>_)=Q
 have c1:=SlR.cellv RT
 have c2:=SlIn.cellv RG
 have c3:=SlR.cellv RF
 have hg:((h.push (.cells 0 false [tv,gv,fv])).push (.cells 0 false [.nils,.nils,.nils])).get h.n=.cells 0 false [tv,gv,fv]:=by rw [AHeap.get_push_ne _ _ (by simp)];exact AHeap.get_push_same _ _
 have f0:=((HFrame.refl (h:=h) (F:=[]) (by simp)).pushTmp (.cells 0 false [tv,gv,fv])).pushTmp (.cells 0 false [.nils,.nils,.nils])
 have gr:((h.push (.cells 0 false [tv,gv,fv])).push (.cells 0 false [.nils,.nils,.nils])).get (h.n+1)=.cells 0 false [.nils,.nils,.nils]:=AHeap.get_push_same (h.push _) _
 have n1:((h.push (.cells 0 false [tv,gv,fv])).push (.cells 0 false [.nils,.nils,.nils])).n=h.n+2:=rfl
 simp -implicitDefEqProofs (disch:=first|exact dz _|fail) only [↓qJ,qK,qL,qA,qB,qC,qD,qE,↓reduceIte,qG,qH,qI,c1,c2,c3]
 generalize (h.push (.cells 0 false [tv,gv,fv])).push (.cells 0 false [.nils,.nils,.nils])=h1 at *
 refine opI_of (app_nil (RG.mono f0.n fun j hj=>f0.get j hj (by simp)) (fun _=>rfl) (fun _ _=>rfl) (by omega) fun gq h2 Fg s2 f2=>?_)
 have n2:=f2.n
 have g2:=(f2.get h.n (by omega) (by simp)).trans hg
 have r2:=(f2.get (h.n+1) (by omega) (by simp)).trans gr
 have gc:=s2.rd.cells
 have kFg:∀ j,j∈Fg→h.n+2≤j∧j<h2.n:=fun j hj=>⟨by
  rcases f2.new j hj with e | e
  ·simp at e
  ·omega,s2.lt j hj⟩
 have f02:HFrame h h2 [] []:=f0.trans (f2.wide (fun j hj=>by simp at hj) (fun j hj=>by simp at hj) (by simp))
 have f3:=(f02.pushTmp (.cells 0 false [.nils,.nils,.nils])).setTmp (i:=h2.n) (by omega) (.cells 0 false [.nils,gq,.nils])
 have O0:OwnS h ((h2.push (.cells 0 false [.nils,.nils,.nils])).set h2.n (.cells 0 false [.nils,gq,.nils])) p Fg [] [] 0 0 tv gv fv .nils gq .nils h.n (h.n+1) h2.n :=
  ⟨f3,by rw [AHeap.get_set_ne _ _ (by omega),AHeap.get_push_ne _ _ (by omega)];exact g2,by rw [AHeap.get_set_ne _ _ (by omega),AHeap.get_push_ne _ _ (by omega)];exact r2,AHeap.get_set_same _ _ _,RowsOf.nil,(SlOf.ro s2 fun j hj=>hj).keep (T:=fun _=>False) (Chg.tmp h2 (KS Fg) _ _) (fun q=>q),RowsOf.nil,⟨Nat.le_refl _,by omega,by omega,by simp⟩,
   fun j hj=>by have:=kFg j hj;simp;omega,by simp,by simp⟩
 have bx:=O0.box
 have hbn:h.n<((h2.push (.cells 0 false [.nils,.nils,.nils])).set h2.n (.cells 0 false [.nils,gq,.nils])).n:=by simp;omega
 simp -implicitDefEqProofs (disch:=first|exact dz _|fail) only [↓qJ,qK,qL,qA,qB,qC,qD,qE,↓reduceIte,qG,qH,qI,gc.1,gc.2,g2,RT.len]
 generalize ((h2.push (.cells 0 false [.nils,.nils,.nils])).set h2.n (.cells 0 false [.nils,gq,.nils]))=h3 at *
 generalize hqn:h2.n=q at *
 refine loopI_of (fun c e h5=>∃ (i:Nat) (S Ft:List Nat) (tq:AVal),c+i=p.types.length∧e.val 1=.ptr h.n 0 0∧e.val 2=.ptr (h.n+1) 0 0∧e.val 3=.ptr q 0 0∧e.val 14=tv∧e.val 15=.int .i64 (p.types.length:Int)∧e.val 16=.int .i64 (i:Int)∧OwnS h h5 p S Ft [] i 0 tv gv fv tq gq .nils h.n (h.n+1) q) p.types.length ?_ ?_
 ·refine ⟨0,Fg,[],.nils,by omega,?_,?_,?_,?_,?_,?_,O0⟩<;>(simp -implicitDefEqProofs (disch:=first|exact dz _|fail) only [↓qJ,qK,qL,qA,qB,qC,qD,qE,↓reduceIte,qG,qH,qI])<;>rfl
 ·clear O0 bx hbn f3 f02 g2 r2 s2 f2 hg gr f0
  rintro c e h5 ⟨i,S,Ft,tq,hci,y1,y2,y3,y14,y15,y16,O⟩
  simp -implicitDefEqProofs (disch:=first|exact dz _|fail) only [↓qJ,qK,qL,qA,qB,qC,qD,qE,↓reduceIte,qG,qH,qI,y15,y16]
  refine cI_bool (fun hc=>?_) (fun hc=>?_)
  ·simp only [decide_eq_true_eq] at hc
   obtain ⟨t,ht⟩:∃ t,p.types[i]?=some t:=⟨_,List.getElem?_eq_getElem (by omega)⟩
   have hf:=O.f
   obtain ⟨j,g2,off,vs,ro,row,x1,x2,x3,x4,x5,x6,lv,rfl,ll⟩:=(RT.mono (h':=h5) (R':=TypeR h) (fun _ _ q=>q) hf.n (fun j hj=>hf.get j hj (by simp))).ix ht .i64
   have k1:=SlIn.cellv ll
   have hq:=O.obj
   have hqn:=O.ids.2.2.2
   have wi:IntKind.i64.wrap ((i:Int)+1)=((i+1:Nat):Int):=(wrap64 (by omega) (by omega)).trans (by omega)
   have x4':off+2≤vs.length:=x4
   simp -implicitDefEqProofs (disch:=first|exact dz _|fail) only [↓qJ,qK,qL,qA,qB,qC,qD,qE,↓reduceIte,qG,qH,qI,y1,y2,y3,y14,y16,x1,x2,x4,x5,k1]
   have f56:=((HFrame.refl (h:=h5) (F:=[]) (by simp)).pushTmp (.cells 0 false [.bool false,.nils])).setTmp (i:=h5.n) (Nat.le_refl _) (.cells 0 false [.bool t.1,lv])
   have gt6:((h5.push (.cells 0 false [.bool false,.nils])).set h5.n (.cells 0 false [.bool t.1,lv])).get h5.n=.cells 0 false [.bool t.1,lv]:=AHeap.get_set_same _ _ _
   have n6:((h5.push (.cells 0 false [.bool false,.nils])).set h5.n (.cells 0 false [.bool t.1,lv])).n=h5.n+1:=rfl
   generalize (h5.push (.cells 0 false [.bool false,.nils])).set h5.n (.cells 0 false [.bool t.1,lv])=h6 at *
   refine opI_of (app_nil ((ll.mono hf.n fun j hj=>hf.get j hj (by simp)).mono f56.n fun j hj=>f56.get j hj (by simp)) (fun _=>rfl) (fun _ _=>rfl) (by have:=l4 t (List.mem_of_getElem? ht);omega) fun lv' h7 F7 s7 f7=>?_)
   have n7:=f7.n
   have gt7:=(f7.get h5.n (by omega) (by simp)).trans gt6
   have lc:=s7.rd.cells
   have hF7:∀ j,j∈F7→h5.n+1≤j∧j<h7.n:=fun j hj=>⟨by
    rcases f7.new j hj with e | e
    ·simp at e
    ·omega,s7.lt j hj⟩
   have f58:=(f56.trans (f7.wide (G:=[]) (G':=[]) (fun j hj=>by simp at hj) (fun j hj=>by simp at hj) (by simp))).setTmp (i:=h5.n) (Nat.le_refl _) (.cells 0 false [.bool t.1,lv'])
   have gq7:=(f7.get q (by omega) (by simp)).trans ((f56.get q hqn (by simp)).trans hq)
   have s8:SlOf (h7.set h5.n (.cells 0 false [.bool t.1,lv'])) 1 encK lv' t.2 F7:=s7.frame (Nat.le_refl _) fun j hj=>AHeap.get_set_ne _ _ (by have:=hF7 j hj;omega)
   have hF8:∀ j,j∈F7→h5.n≤j∧j<(h7.set h5.n (.cells 0 false [.bool t.1,lv'])).n:=fun j hj=>by have:=hF7 j hj;show _∧j<h7.n;omega
   have ne1:q≠h5.n:=by omega
   simp -implicitDefEqProofs (disch:=first|exact dz _|fail) only [↓qJ,qK,qL,qA,qB,qC,qD,qE,↓reduceIte,qG,qH,qI,y1,y2,y3,y14,y16,gt7,gq7,lc.1,lc.2,ne1]
   refine opI_of ((O.types8 f58 hF8).app1 (by rw [List.length_take];omega) (a:=t) (row:=[.bool t.1,lv']) rfl (by simp only [List.all_cons,lc.2];rfl) ⟨lv',rfl,SlOf.ro s8 fun j hj=>by simp [hj]⟩ fun tq' h9 Ft' s9 f9=>?_)
   have O':=O.typ f58 hF8 ht f9 s9
   have gq9:h9.get q=.cells 0 false [tq,gq,.nils]:=by
    rw [f9.get q (by show q<h7.n;omega) (fun hm=>(O.Ft0 q hm).2.2.2.2.1 rfl),AHeap.get_set_ne _ _ ne1];exact gq7
   have n9:=f9.n
   have n9':h7.n≤h9.n:=n9
   have tc:=s9.cells
   simp -implicitDefEqProofs (disch:=first|exact dz _|fail) only [↓qJ,qK,qL,qA,qB,qC,qD,qE,↓reduceIte,qG,qH,qI,y1,y2,y3,y14,y15,y16,gq9,tc.1,tc.2,wi]
   exact ⟨c-1,by omega,i+1,_,_,tq',by omega,rfl,O'⟩
  ·simp only [decide_eq_false_iff_not] at hc
   have hi:i=p.types.length:=by
    have:=O.types.lt
    omega
   subst hi
   have hbx:=O.box
   have hbn:h.n<h5.n:=by have:=O.ids;omega
   simp -implicitDefEqProofs (disch:=first|exact dz _|fail) only [↓qJ,qK,qL,qA,qB,qC,qD,qE,↓reduceIte,qG,qH,qI,y1,y2,y3,hbx,RF.len]
   refine loopI_of (fun c e h5=>∃ (i:Nat) (S Ff:List Nat) (fq:AVal),c+i=p.funcs.length∧e.val 1=.ptr h.n 0 0∧e.val 2=.ptr (h.n+1) 0 0∧e.val 3=.ptr q 0 0∧e.val 32=fv∧e.val 33=.int .i64 (p.funcs.length:Int)∧e.val 34=.int .i64 (i:Int)∧OwnS h h5 p S Ft Ff p.types.length i tv gv fv tq gq fq h.n (h.n+1) q) p.funcs.length ?_ ?_
   ·refine ⟨0,S,[],.nils,by omega,?_,?_,?_,?_,?_,?_,O⟩<;>(simp -implicitDefEqProofs (disch:=first|exact dz _|fail) only [↓qJ,qK,qL,qA,qB,qC,qD,qE,↓reduceIte,qG,qH,qI,y1,y2,y3])<;>rfl
   ·clear O hbx hbn y1 y2 y3 y14 y15 y16 hci hc
    rintro c e h5 ⟨i,S,Ff,fq,hci,y1,y2,y3,y32,y33,y34,O⟩
    simp -implicitDefEqProofs (disch:=first|exact dz _|fail) only [↓qJ,qK,qL,qA,qB,qC,qD,qE,↓reduceIte,qG,qH,qI,y33,y34]
    refine cI_bool (fun hc=>?_) (fun hc=>?_)
    ·simp only [decide_eq_true_eq] at hc
     obtain ⟨f,hfn⟩:∃ f,p.funcs[i]?=some f:=⟨_,List.getElem?_eq_getElem (by omega)⟩
     obtain ⟨m1,m2,m3,m4⟩:=l5 f (List.mem_of_getElem? hfn)
     have hf:=O.f
     obtain ⟨j,g2,off,vs,ro,row,x1,x2,x3,x4,x5,x6,sv,rv,cv,rfl,ls,lr,lc⟩:=(RF.mono (h':=h5) (R':=FuncR h) (fun _ _ q=>q) hf.n (fun j hj=>hf.get j hj (by simp))).ix hfn .i64
     obtain ⟨rs,lcr,hrl,hrs⟩:=SlR.rows lc fun _ _ q=>insR_cells q
     have k1:=SlIn.cellv ls
     have k2:=SlIn.cellv lr
     have k3:=SlR.cellv lc
     have hq:=O.obj
     have hqn:=O.ids.2.2.2
     have wi:IntKind.i64.wrap ((i:Int)+1)=((i+1:Nat):Int):=(wrap64 (by omega) (by omega)).trans (by omega)
     have x4':off+4≤vs.length:=x4
     simp -implicitDefEqProofs (disch:=first|exact dz _|fail) only [↓qJ,qK,qL,qA,qB,qC,qD,qE,↓reduceIte,qG,qH,qI,y1,y2,y3,y32,y34,x1,x2,x4,x5,k1,k2,k3]
     have f56:=((HFrame.refl (h:=h5) (F:=[]) (by simp)).pushTmp (.cells 0 false [.int .i64 0,.nils,.nils,.nils])).setTmp (i:=h5.n) (Nat.le_refl _) (.cells 0 false [.int .i64 f.params,sv,rv,cv])
     have gt6:((h5.push (.cells 0 false [.int .i64 0,.nils,.nils,.nils])).set h5.n (.cells 0 false [.int .i64 f.params,sv,rv,cv])).get h5.n=.cells 0 false [.int .i64 f.params,sv,rv,cv]:=AHeap.get_set_same _ _ _
     have n6:((h5.push (.cells 0 false [.int .i64 0,.nils,.nils,.nils])).set h5.n (.cells 0 false [.int .i64 f.params,sv,rv,cv])).n=h5.n+1:=rfl
     generalize (h5.push (.cells 0 false [.int .i64 0,.nils,.nils,.nils])).set h5.n (.cells 0 false [.int .i64 f.params,sv,rv,cv])=h6 at *
     refine opI_of (app_nil ((ls.mono hf.n fun j hj=>hf.get j hj (by simp)).mono f56.n fun j hj=>f56.get j hj (by simp)) (fun _=>rfl) (fun _ _=>rfl) (by omega) fun sv' h7 F7 s7 f7=>?_)
     have n7:=f7.n
     have gt7:=(f7.get h5.n (by omega) (by simp)).trans gt6
     have sc7:=s7.rd.cells
     have hF7:∀ j,j∈F7→h5.n+1≤j∧j<h7.n:=fun j hj=>⟨by
      rcases f7.new j hj with e | e
      ·simp at e
      ·omega,s7.lt j hj⟩
     have f57:=(f56.trans (f7.wide (G:=[]) (G':=[]) (fun j hj=>by simp at hj) (fun j hj=>by simp at hj) (by simp))).setTmp (i:=h5.n) (Nat.le_refl _) (.cells 0 false [.int .i64 f.params,sv',rv,cv])
     have s8:SlOf (h7.set h5.n (.cells 0 false [.int .i64 f.params,sv',rv,cv])) 1 encK sv' f.slots F7:=s7.frame (Nat.le_refl _) fun j hj=>AHeap.get_set_ne _ _ (by have:=hF7 j hj;omega)
     have gt8:(h7.set h5.n (.cells 0 false [.int .i64 f.params,sv',rv,cv])).get h5.n=.cells 0 false [.int .i64 f.params,sv',rv,cv]:=AHeap.get_set_same _ _ _
     have n8:(h7.set h5.n (.cells 0 false [.int .i64 f.params,sv',rv,cv])).n=h7.n:=rfl
     simp -implicitDefEqProofs (disch:=first|exact dz _|fail) only [↓qJ,qK,qL,qA,qB,qC,qD,qE,↓reduceIte,qG,qH,qI,y1,y2,y3,y32,y34,gt7,sc7.1,sc7.2]
     generalize h7.set h5.n (.cells 0 false [.int .i64 f.params,sv',rv,cv])=h8 at *
     refine opI_of (app_nil ((lr.mono hf.n fun j hj=>hf.get j hj (by simp)).mono f57.n fun j hj=>f57.get j hj (by simp)) (fun _=>rfl) (fun _ _=>rfl) (by omega) fun rv' h9 F9 s9 f9=>?_)
     have n9:=f9.n
     have gt9:=(f9.get h5.n (by omega) (by simp)).trans gt8
     have sc9:=s9.rd.cells
     have hF9:∀ j,j∈F9→h8.n≤j∧j<h9.n:=fun j hj=>⟨by
      rcases f9.new j hj with e | e
      ·simp at e
      ·omega,s9.lt j hj⟩
     have f59:=(f57.trans (f9.wide (G:=[]) (G':=[]) (fun j hj=>by simp at hj) (fun j hj=>by simp at hj) (by simp))).setTmp (i:=h5.n) (Nat.le_refl _) (.cells 0 false [.int .i64 f.params,sv',rv',cv])
     have t8:SlOf (h9.set h5.n (.cells 0 false [.int .i64 f.params,sv',rv',cv])) 1 encK sv' f.slots F7:=s8.frame n9 fun j hj=>by
      have:=hF7 j hj
      rw [AHeap.get_set_ne _ _ (by omega),f9.get j (by omega) (by simp)]
     have t9:SlOf (h9.set h5.n (.cells 0 false [.int .i64 f.params,sv',rv',cv])) 1 encK rv' f.results F9:=s9.frame (Nat.le_refl _) fun j hj=>AHeap.get_set_ne _ _ (by have:=hF9 j hj;omega)
     have gta:(h9.set h5.n (.cells 0 false [.int .i64 f.params,sv',rv',cv])).get h5.n=.cells 0 false [.int .i64 f.params,sv',rv',cv]:=AHeap.get_set_same _ _ _
     have na:(h9.set h5.n (.cells 0 false [.int .i64 f.params,sv',rv',cv])).n=h9.n:=rfl
     simp -implicitDefEqProofs (disch:=first|exact dz _|fail) only [↓qJ,qK,qL,qA,qB,qC,qD,qE,↓reduceIte,qG,qH,qI,y1,y2,y3,y32,y34,gt9,sc9.1,sc9.2]
     generalize h9.set h5.n (.cells 0 false [.int .i64 f.params,sv',rv',cv])=ha at *
     refine opI_of (app_nil ((lcr.mono hf.n fun j hj=>hf.get j hj (by simp)).mono f59.n fun j hj=>f59.get j hj (by simp)) (fun a=>a.2.1) (fun a _=>a.2.2) (by omega) fun cv' hb Fb sb fb=>?_)
     have nb:=fb.n
     have gtb:=(fb.get h5.n (by omega) (by simp)).trans gta
     have scb:=sb.rd.cells
     have hFb:∀ j,j∈Fb→ha.n≤j∧j<hb.n:=fun j hj=>⟨by
      rcases fb.new j hj with e | e
      ·simp at e
      ·omega,sb.lt j hj⟩
     have f5b:=(f59.trans (fb.wide (G:=[]) (G':=[]) (fun j hj=>by simp at hj) (fun j hj=>by simp at hj) (by simp))).setTmp (i:=h5.n) (Nat.le_refl _) (.cells 0 false [.int .i64 f.params,sv',rv',cv'])
     have ub:SlOf (hb.set h5.n (.cells 0 false [.int .i64 f.params,sv',rv',cv'])) 6 (fun r:Row 6=>r.1) cv' rs Fb:=sb.frame (Nat.le_refl _) fun j hj=>AHeap.get_set_ne _ _ (by have:=hFb j hj;omega)
     have u8:SlOf (hb.set h5.n (.cells 0 false [.int .i64 f.params,sv',rv',cv'])) 1 encK sv' f.slots F7:=t8.frame nb fun j hj=>by
      have:=hF7 j hj
      rw [AHeap.get_set_ne _ _ (by omega),fb.get j (by omega) (by simp)]
     have u9:SlOf (hb.set h5.n (.cells 0 false [.int .i64 f.params,sv',rv',cv'])) 1 encK rv' f.results F9:=t9.frame nb fun j hj=>by
      have:=hF9 j hj
      rw [AHeap.get_set_ne _ _ (by omega),fb.get j (by omega) (by simp)]
     have gtc:(hb.set h5.n (.cells 0 false [.int .i64 f.params,sv',rv',cv'])).get h5.n=.cells 0 false [.int .i64 f.params,sv',rv',cv']:=AHeap.get_set_same _ _ _
     have nc:(hb.set h5.n (.cells 0 false [.int .i64 f.params,sv',rv',cv'])).n=hb.n:=rfl
     have ubl:∀ h',lenV h' cv'=some (.int .i64 (f.code.length:Int),h'):=fun h'=>by rw [←hrl];exact ub.len h'
     simp -implicitDefEqProofs (disch:=first|exact dz _|fail) only [↓qJ,qK,qL,qA,qB,qC,qD,qE,↓reduceIte,qG,qH,qI,y1,y2,y3,y32,y34,gtb,scb.1,scb.2,ubl]
     generalize hb.set h5.n (.cells 0 false [.int .i64 f.params,sv',rv',cv'])=hc' at *
     refine loopI_of (fun cy e h10=>∃ (y:Nat) (G:List Nat) (rs':List (Row 6)),cy+y=f.code.length∧e.val 1=.ptr h.n 0 0∧e.val 2=.ptr (h.n+1) 0 0∧e.val 3=.ptr q 0 0∧e.val 32=fv∧e.val 33=.int .i64 (p.funcs.length:Int)∧e.val 34=.int .i64 (i:Int)∧e.val 7=.ptr h5.n 0 0∧e.val 52=.int .i64 (f.code.length:Int)∧e.val 53=.int .i64 (y:Int) ∧
      HFrame h5 h10 [] []∧hb.n≤h10.n∧h10.get h5.n=.cells 0 false [.int .i64 f.params,sv',rv',cv']∧SlOf h10 6 (fun r:Row 6=>r.1) cv' rs' Fb∧SlOf h10 1 encK sv' f.slots F7∧SlOf h10 1 encK rv' f.results F9∧rs'.length=f.code.length ∧
      (∀ (j:Nat) (a:PIns) (r:Row 6),f.code[j]?=some a→rs'[j]?=some r→if j<y then InsO h10 (KS G) a r.1 else InsR h a r.1)∧∀ j,j∈G→hb.n≤j∧j<h10.n) f.code.length ?_ ?_
     ·refine ⟨0,[],rs,by omega,?_,?_,?_,?_,?_,?_,?_,?_,?_,f5b,by omega,gtc,ub,u8,u9,hrl,fun j a r h1 h2=>?_,by simp⟩<;>first | (simp -implicitDefEqProofs (disch:=first|exact dz _|fail) only [↓qJ,qK,qL,qA,qB,qC,qD,qE,↓reduceIte,qG,qH,qI,y1,y2,y3,y32,y33,y34];done) | (simp -implicitDefEqProofs (disch:=first|exact dz _|fail) only [↓qJ,qK,qL,qA,qB,qC,qD,qE,↓reduceIte,qG,qH,qI,y1,y2,y3,y32,y33,y34];rfl) | skip
      rw [if_neg (by omega)]
      exact hrs j a r h1 h2
     ·rintro cy e h10 ⟨y,G,rs',hcy,z1,z2,z3,z32,z33,z34,z7,z52,z53,f10,n10,gt10,ub,u8,u9,hrl',hrel,hG⟩
      simp -implicitDefEqProofs (disch:=first|exact dz _|fail) only [↓qJ,qK,qL,qA,qB,qC,qD,qE,↓reduceIte,qG,qH,qI,z52,z53]
      refine cI_bool (fun hc2=>?_) (fun hc2=>?_)
      ·simp only [decide_eq_true_eq] at hc2
       obtain ⟨a,ha'⟩:∃ a,f.code[y]?=some a:=⟨_,List.getElem?_eq_getElem (by omega)⟩
       obtain ⟨rr,hrr⟩:∃ rr,rs'[y]?=some rr:=⟨_,List.getElem?_eq_getElem (by omega)⟩
       have hin:=hrel y a rr ha' hrr
       rw [if_neg (by omega)] at hin
       obtain ⟨himm,lw,hrow,ll⟩:=hin
       have k4:=SlIn.cellv ll
       obtain ⟨idc,gc',oc,vsc,ev,e2,e3,e4,e5,e6,e7,e8⟩:=SlOf.updC ub (fun r=>r.2.1) hrr (c:=5) (by omega)
       have e9:vsc[oc+y*6+5]?=some lw:=by rw [row_at e7 (by omega),hrow];rfl
       have hid:∀ j,j∈Fb→j=idc:=fun j hj=>by rw [e5] at hj;simpa using hj
       have hidb:idc∈Fb:=by rw [e5];simp
       have hidn:=hFb idc hidb
       have wy:IntKind.i64.wrap ((y:Int)+1)=((y+1:Nat):Int):=(wrap64 (by omega) (by omega)).trans (by omega)
       have cb:=ub.beq
       simp -implicitDefEqProofs (disch:=first|exact dz _|fail) only [↓qJ,qK,qL,qA,qB,qC,qD,qE,↓reduceIte,qG,qH,qI,z1,z2,z3,z32,z33,z34,z7,z52,z53,gt10,e6,e2,e9]
       refine trOp_of (app_nil ((ll.mono hf.n fun j hj=>hf.get j hj (by simp)).mono f10.n fun j hj=>f10.get j hj (by simp)) (fun _=>rfl) (fun _ _=>rfl) (by have:=m4 a (List.mem_of_getElem? ha');omega) fun lw' h11 F11 s11 f11=>?_)
       have n11:=f11.n
       have gt11:=(f11.get h5.n (by omega) (by simp)).trans gt10
       have lc11:=s11.rd.cells
       have hF11:∀ j,j∈F11→h10.n≤j∧j<h11.n:=fun j hj=>⟨by
        rcases f11.new j hj with e | e
        ·simp at e
        ·exact e,s11.lt j hj⟩
       have e2':=(f11.get idc e3 (by simp)).trans e2
       have e6':=fun k=>ix_keep (h':=h11) (e6 k) (f11.get idc e3 (by simp))
       have ub11:=ub.frame n11 fun j hj=>f11.get j (ub.lt j hj) (by simp)
       obtain ⟨idc2,gc2,oc2,vsc2,ev2,b2,b3,b4,b5,b6,b7,b8⟩:=SlOf.updC ub11 (fun r=>r.2.1) hrr (c:=5) (by omega)
       have hev:=ev.symm.trans ev2
       simp only [AVal.sl.injEq,and_true] at hev
       obtain ⟨rfl,rfl,rfl,_⟩:=hev
       have hvs:=e2'.symm.trans b2
       simp only [AObj.cells.injEq,true_and] at hvs
       subst hvs
       have hlid:idc<h11.n:=by omega
       have ne2:h5.n≠idc:=by omega
       simp -implicitDefEqProofs (disch:=first|exact dz _|fail) only [↓qJ,qK,qL,qA,qB,qC,qD,qE,↓reduceIte,qG,qH,qI,z1,z2,z3,z32,z33,z34,z7,z52,z53,gt10,gt11,e6',e2',lc11.1,lc11.2,cb,ne2,b4,wy]
       have hcell:(rr.1.set 5 lw').all (·.cell)=true:=by
        rw [hrow]
        have:=rr.2.2
        rw [hrow] at this
        simp only [List.all_cons,List.all_nil,Bool.and_true,Bool.and_eq_true] at this
        simp only [List.set_cons_succ,List.set_cons_zero,List.all_cons,List.all_nil,Bool.and_true,Bool.and_eq_true]
        exact ⟨this.1,this.2.1,this.2.2.1,this.2.2.2.1,this.2.2.2.2.1,lc11.2⟩
       have Cg:Chg (·=.no) h10 (h11.set idc (.cells gc' false (vsc.take (oc+y*6+5)++[lw']++vsc.drop (oc+y*6+5+1)))) (KS G) (KS (G++F11)):=(KS.chg f11 (by simp) fun j hj=>(hF11 j hj).1).set (fun _=>KS.out fun hm=>by have:=hG idc hm;omega) _
       have s12:SlOf (h11.set idc (.cells gc' false (vsc.take (oc+y*6+5)++[lw']++vsc.drop (oc+y*6+5+1)))) 1 encK lw' a.list F11:=s11.frame (Nat.le_refl _) fun j hj=>AHeap.get_set_ne _ _ (by have:=hF11 j hj;omega)
       refine ⟨cy-1,by omega,y+1,G++F11,rs'.set y ⟨rr.1.set 5 lw',by rw [List.length_set];exact rr.2.1,hcell⟩,by omega,rfl,(f10.trans (f11.wide (G:=[]) (G':=[]) (fun j hj=>by simp at hj) (fun j hj=>by simp at hj) (by simp))).setTmp (by omega) _,by omega,b8 lw' _ rfl,u8.frame n11 fun j hj=>?_,u9.frame n11 fun j hj=>?_,by rw [List.length_set];exact hrl',fun j a' r' h1' h2'=>?_,fun j hj=>?_⟩
       ·have:=hF7 j hj
        rw [AHeap.get_set_ne _ _ (by omega),f11.get j (u8.lt j hj) (by simp)]
       ·have:=hF9 j hj
        rw [AHeap.get_set_ne _ _ (by omega),f11.get j (u9.lt j hj) (by simp)]
       ·by_cases ej:y=j
        ·subst ej
         rw [List.getElem?_set_self (by omega)] at h2'
         rw [ha'] at h1'
         cases h1';cases h2'
         rw [if_pos (by omega)]
         exact ⟨lw',by show rr.1.set 5 lw'=_;rw [hrow];rfl,SlOf.ro s12 fun j hj=>by simp [hj]⟩
        ·rw [List.getElem?_set_ne ej] at h2'
         have:=hrel j a' r' h1' h2'
         by_cases ey:j<y
         ·rw [if_pos ey] at this
          rw [if_pos (by omega)]
          exact this.keep Cg Tag.noConfusion
         ·rw [if_neg ey] at this
          rw [if_neg (by omega)]
          exact this
       ·rcases List.mem_append.1 hj with m | m
        ·have:=hG j m;show _∧j<h11.n;omega
        ·have:=hF11 j m;show _∧j<h11.n;omega
      ·simp only [decide_eq_false_iff_not] at hc2
       obtain rfl:y=f.code.length:=by omega
       have n5:h5.n≤h10.n:=f10.n
       have gq10:=(f10.get q hqn (by simp)).trans hq
       have ne1:q≠h5.n:=by omega
       have hF8:∀ j,j∈F7++F9++Fb++G→h5.n≤j∧j<h10.n:=fun j hj=>by
        simp only [List.mem_append] at hj
        rcases hj with ((hj | hj) | hj) | hj
        ·have:=hF7 j hj;omega
        ·have:=hF9 j hj;omega
        ·have:=hFb j hj;omega
        ·have:=hG j hj;omega
       have scc:=u8.rd.cells
       have rcc:=u9.rd.cells
       have ccc:=ub.rd.cells
       have hin:∀ {j:Nat},j∈F7++F9++Fb++G→j∈S++(F7++F9++Fb++G):=fun h=>List.mem_append_right _ h
       have row:FuncO h10 (KS (S++(F7++F9++Fb++G))) f [.int .i64 f.params,sv',rv',cv'] :=
        ⟨sv',rv',cv',rfl,SlOf.ro u8 fun j hj=>hin (by simp [hj]),SlOf.ro u9 fun j hj=>hin (by simp [hj]),RowsOf.slK (R:=InsO h10 (KS (S++(F7++F9++Fb++G)))) ⟨rs',ub,hrl',fun j a r h1 h2=>by
         have hj:=(List.getElem?_eq_some_iff.1 h1).1
         have:=hrel j a r h1 h2
         rw [if_pos hj] at this
         exact this.more fun i hi=>by
          unfold KS at hi ⊢
          split at hi
          ·rename_i c;exact if_pos (hin (by simp [c]))
          ·cases hi⟩ (fun j hj=>KS.in (hin (by simp [hj]))) fun _ _ q=>q⟩
       simp -implicitDefEqProofs (disch:=first|exact dz _|fail) only [↓qJ,qK,qL,qA,qB,qC,qD,qE,↓reduceIte,qG,qH,qI,z1,z2,z3,z32,z33,z34,z7,gt10,gq10,scc.2,rcc.2,ccc.2]
       refine opI_of ((O.funcs8 f10 hF8).app1 (by rw [List.length_take];omega) (a:=f) (row:=[.int .i64 f.params,sv',rv',cv']) rfl (by simp only [List.all_cons,scc.2,rcc.2,ccc.2];rfl) row fun fq' h12 Ff' s12 f12=>?_)
       have O':=O.fnc f10 hF8 hfn f12 s12
       have gq12:h12.get q=.cells 0 false [tq,gq,fq]:=by
        rw [f12.get q (by omega) (fun hm=>(O.Ff0 q hm).2.2.2.2.1 rfl)];exact gq10
       have n12:=f12.n
       have tc:=s12.cells
       simp -implicitDefEqProofs (disch:=first|exact dz _|fail) only [↓qJ,qK,qL,qA,qB,qC,qD,qE,↓reduceIte,qG,qH,qI,z1,z2,z3,z32,z33,z34,gq12,tc.1,tc.2,wi]
       exact ⟨c-1,by omega,i+1,_,_,fq',by omega,rfl,O'⟩
    ·simp only [decide_eq_false_iff_not] at hc
     have hi:i=p.funcs.length:=by omega
     subst hi
     have hq:=O.obj
     have hqn:=O.ids.2.2.2
     have hr:=O.res
     have hrn:h.n+1<h5.n:=by have:=O.ids;omega
     have tc:=O.types.cells
     have fc:=O.funcs.cells
     have gc5:=O.globals.now.cells
     have ne1:q≠h.n+1:=by have:=O.ids;omega
     simp -implicitDefEqProofs (disch:=first|exact dz _|fail) only [↓qJ,qK,qL,qA,qB,qC,qD,qE,↓reduceIte,qG,qH,qI,y1,y2,y3,hq,hr,tc.1,tc.2,fc.1,fc.2,gc5.1,gc5.2]
     subst hQ
     have cF:Chg (·=.no) h5 (h5.set (h.n+1) (.cells 0 false [tq,gq,fq])) (KS S) (KS S):=(Chg.refl (·=Tag.no) h5 (KS S)).set (fun _=>KS.out fun hm=>(O.S0 _ hm).2.2.2.1 rfl) _
     have mr:∀ j,KS S j=.ro→KS (S++(Ft++Ff)) j=.ro:=fun j hj=>KS.more hj
     have ty:RowsOf (h5.set (h.n+1) (.cells 0 false [tq,gq,fq])) 2 (TypeO h5 (KS S)) tq p.types Ft:=by
      have:=O.types.set (i:=h.n+1) (fun hm=>(O.Ft0 _ hm).2.2.2.1 rfl) (.cells 0 false [tq,gq,fq])
      rwa [List.take_length] at this
     have fy:RowsOf (h5.set (h.n+1) (.cells 0 false [tq,gq,fq])) 4 (FuncO h5 (KS S)) fq p.funcs Ff:=by
      have:=O.funcs.set (i:=h.n+1) (fun hm=>(O.Ff0 _ hm).2.2.2.1 rfl) (.cells 0 false [tq,gq,fq])
      rwa [List.take_length] at this
     refine ⟨tq,gq,fq,S++(Ft++Ff),rfl,O.f.setTmp (by omega) _,⟨RowsOf.slK ty (fun j hj=>KS.in (by simp [hj])) fun _ _ q=>(q.keep cF Tag.noConfusion).more mr,(O.globals.keep cF Tag.noConfusion).more mr,RowsOf.slK fy (fun j hj=>KS.in (by simp [hj])) fun _ _ q=>(q.keep cF Tag.noConfusion).more mr⟩,fun j hj=>?_⟩
     simp only [List.mem_append] at hj
     show _∧j<h5.n
     rcases hj with hj | hj | hj
     ·have:=O.S0 j hj;omega
     ·have:=O.Ft0 j hj;omega
     ·have:=O.Ff0 j hj;omega
end
end Go.Proofs.Ytnbnpjhlflcjeaa.Id
namespace Go.Proofs.Ytnbnpjhlflcjeaa.Id
open Go Go.AM Go.Proofs.Ytnbnpjhlflcjeaa.AmGF
open Nat renaming reduceAdd → qA,reduceLeDiff → qB,reduceEqDiff → qC,reduceLT → qE
open Int renaming reduceToNat → qD,reduceEq → qG,reduceLT → qH,reduceLE → qI
section
variable {h h' h1:AHeap} {γ:GI} {R:Run}
theorem res_tc (e:Env) (h:AHeap) (t u:Nat) (n:Option Nat):((resOf ⟨e,h⟩ [.tmp t,.cell u n]).map fun v=>(v,h))=((aop e h (.load n (.tmp u))).map fun p=>(.tup [e.val t,p.1],h)):=by
 simp only [resOf,resVals,resVal]
 cases aop e h (.load n (.tmp u))<;>rfl
theorem ms_things (h:AHeap):msV h 3 40 [.int .i64 0,.nils,.nilp] (.int .i64 1)=some (.sl h.n 0 0 1 3,h.push (.cells 0 false [.int .i64 0,.nils,.nilp])):=by
 simp only [msV]
 rw [if_pos ⟨by omega,by decide,by decide⟩]
 rfl
set_option maxHeartbeats 16000000 in
theorem newOk {p:PProg} {row:List AVal} (RR:ProgR h p row) (ok:p.Ok) (hl:limP p=true) (hc:(V.checkF p).1=0) {R':Run} (hn:Run.new p=some R') :
  CallP AP 14 [.agg row] h fun v h'=>∃ γ,v=.tup [.ptr γ.d 0 0,.agg [.int .i64 0,.int .i64 0,.int .i64 0]]∧RunP h' γ R'∧HFrame h h' [] []∧∀ j,j<h.n→γ.K j=.no:=by
 obtain ⟨l1,l2,l3,l4,l5⟩:=limP_get hl
 have RR0:=RR
 have rc:=ProgR.cellv RR
 obtain ⟨tv,gv,fv,rfl,RT,RG,RF⟩:=RR
 refine callP (rfl:Tr.get AP 14=some A14) ?_
 generalize hQ:(fun (r:AVal) (h':AHeap)=>_)=Q
 have c1:=SlR.cellv RT
 have c2:=SlIn.cellv RG
 have c3:=SlR.cellv RF
 have f0:=((HFrame.refl (h:=h) (F:=[]) (by simp)).pushTmp (.cells 0 false [tv,gv,fv])).pushTmp (.cells 0 false [.int .i64 0,.int .i64 0,.int .i64 0])
 have g0:((h.push (.cells 0 false [tv,gv,fv])).push (.cells 0 false [.int .i64 0,.int .i64 0,.int .i64 0])).get h.n=.cells 0 false [tv,gv,fv]:=by rw [AHeap.get_push_ne _ _ (by simp)];exact AHeap.get_push_same _ _
 have e0:((h.push (.cells 0 false [tv,gv,fv])).push (.cells 0 false [.int .i64 0,.int .i64 0,.int .i64 0])).get (h.n+1)=.cells 0 false [.int .i64 0,.int .i64 0,.int .i64 0]:=AHeap.get_push_same (h.push _) _
 have n0:((h.push (.cells 0 false [tv,gv,fv])).push (.cells 0 false [.int .i64 0,.int .i64 0,.int .i64 0])).n=h.n+2:=rfl
 simp -implicitDefEqProofs (disch:=first|exact dz _|fail) only [↓qJ,qK,qL,qA,qB,qC,qD,qE,↓reduceIte,qG,qH,qI,c1,c2,c3]
 generalize (h.push (.cells 0 false [tv,gv,fv])).push (.cells 0 false [.int .i64 0,.int .i64 0,.int .i64 0])=h1 at *
 refine callI_of (V.check (RR0.keep f0) ok) ?_
 rintro r h2 ⟨f2,rfl⟩
 have f02:=f0.trans f2
 have n2:=f2.n
 have g2:=(f2.get h.n (by omega) (by simp)).trans g0
 have e2:=(f2.get (h.n+1) (by omega) (by simp)).trans e0
 have f03:=(f02.pushTmp (.cells 0 false [.int .i64 0,.int .i64 0,.int .i64 0])).setTmp (i:=h2.n) (by omega) (.cells 0 false [.int .i64 (V.checkF p).1,.int .i64 (V.checkF p).2.1,.int .i64 (V.checkF p).2.2])
 have g3:((h2.push (.cells 0 false [.int .i64 0,.int .i64 0,.int .i64 0])).set h2.n (.cells 0 false [.int .i64 (V.checkF p).1,.int .i64 (V.checkF p).2.1,.int .i64 (V.checkF p).2.2])).get h.n=.cells 0 false [tv,gv,fv]:=by rw [AHeap.get_set_ne _ _ (by omega),AHeap.get_push_ne _ _ (by omega)];exact g2
 have e3:((h2.push (.cells 0 false [.int .i64 0,.int .i64 0,.int .i64 0])).set h2.n (.cells 0 false [.int .i64 (V.checkF p).1,.int .i64 (V.checkF p).2.1,.int .i64 (V.checkF p).2.2])).get (h.n+1)=.cells 0 false [.int .i64 0,.int .i64 0,.int .i64 0]:=by rw [AHeap.get_set_ne _ _ (by omega),AHeap.get_push_ne _ _ (by omega)];exact e2
 have n3:((h2.push (.cells 0 false [.int .i64 0,.int .i64 0,.int .i64 0])).set h2.n (.cells 0 false [.int .i64 (V.checkF p).1,.int .i64 (V.checkF p).2.1,.int .i64 (V.checkF p).2.2])).n=h2.n+1:=rfl
 have d1:(!decide ((V.checkF p).1=0))=false:=by simp [hc]
 simp -implicitDefEqProofs (disch:=first|exact dz _|fail) only [↓qJ,qK,qL,qA,qB,qC,qD,qE,↓reduceIte,qG,qH,qI,d1,g2]
 generalize (h2.push (.cells 0 false [.int .i64 0,.int .i64 0,.int .i64 0])).set h2.n (.cells 0 false [.int .i64 (V.checkF p).1,.int .i64 (V.checkF p).2.1,.int .i64 (V.checkF p).2.2])=h3 at *
 refine trCall_of (own (RR0.keep f03) hl) ?_
 rintro r h4 ⟨tv',gv',fv',S,rfl,f4,PO,hS⟩
 have f04:=f03.trans f4
 have n4:=f4.n
 have g4:=(f4.get h.n (by omega) (by simp)).trans g3
 have e4:=(f4.get (h.n+1) (by omega) (by simp)).trans e3
 have ms:=fun h=>ms_u64 h p.globals.length l2
 have gl:=RG.len
 have tc:=PO.t.cell
 have gc:=PO.g.now.cells
 have fc:=PO.f.cell
 have mt:=ms_things
 have gvb:=SlIn.beqv RG
 simp -implicitDefEqProofs (disch:=first|exact dz _|fail) only [↓qJ,qK,qL,qA,qB,qC,qD,qE,↓reduceIte,qG,qH,qI,g3,g4,gl,ms,mt,tc,gc.1,gc.2,fc,gvb]
 have P0:RunP (((h4.push (.cells 0 false (List.replicate p.globals.length (.int .u64 0)))).push (.cells 0 false [.int .i64 0,.nils,.nilp])).push (.cells 0 false [tv',gv',fv',.sl h4.n 0 0 p.globals.length 1,.sl (h4.n+1) 0 0 1 3,.nils,.int .u64 0,.nils,.bool false,.int .i64 0]))
   { d:=h4.n+1+1,K:=fun j=>if j∈S then .ro else if j=h4.n then .globals else if j=h4.n+1 then .things else if j=h4.n+2 then .d else .no,gs:=[],th:=[(0,.nils,.nilp)],tv:=tv',gv:=gv',fv:=fv',glv:=.sl h4.n 0 0 p.globals.length 1,thv:=.sl (h4.n+1) 0 0 1 3,gsv:=.nils,trv:=.nils }
   { p:=p,globals:=zeros p.globals.length,things:=[⟨0,[],none⟩],gs:=[],clock:=0,trace:=[],ended:=false,g:=0 }:=by
  have hSn:∀ j,j∈S→j<h4.n:=fun j hj=>(hS j hj).2
  have ck:Chg (fun _=>False) h4 (((h4.push (.cells 0 false (List.replicate p.globals.length (.int .u64 0)))).push (.cells 0 false [.int .i64 0,.nils,.nilp])).push (.cells 0 false [tv',gv',fv',.sl h4.n 0 0 p.globals.length 1,.sl (h4.n+1) 0 0 1 3,.nils,.int .u64 0,.nils,.bool false,.int .i64 0])) (KS S) (fun j=>if j∈S then .ro else if j=h4.n then .globals else if j=h4.n+1 then .things else if j=h4.n+2 then .d else .no) :=
   ((((Chg.refl _ h4 (KS S)).push _).push _).push _).tag fun j hj=>by
    show (if _ then _ else _)=KS S j
    unfold KS
    by_cases c:j∈S
    ·rw [if_pos c,if_pos c]
    ·rw [if_neg c,if_neg c,if_neg (by omega),if_neg (by omega),if_neg (by omega)]
  refine ⟨fun j hj=>?_,?_,AHeap.get_push_same ((h4.push _).push _) _,PO.keep ck (fun q=>q),⟨[h4.n],.inr ⟨h4.n,0,0,_,by simp [zeros],by rw [AHeap.get_push_ne _ _ (by simp;omega),AHeap.get_push_ne _ _ (by simp)];exact AHeap.get_push_same _ _,by simp;omega,by simp [zeros],by simp [zeros,flatP],rfl⟩,fun j hj=>?_⟩,⟨[h4.n+1],.inr ⟨h4.n+1,0,0,_,rfl,by rw [AHeap.get_push_ne _ _ (by simp)];exact AHeap.get_push_same (h4.push _) _,by simp,by simp,by simp,rfl⟩,fun j hj=>?_⟩,All2.nil.snoc (l:=[]) (m:=[]) ⟨rfl,Ow.nil,rfl⟩,Ow.nil,All2.nil,Ow.nil⟩
  ·simp only at hj
   by_cases c:j∈S
   ·have:=hSn j c;simp;omega
   ·by_cases c1:j=h4.n
    ·simp;omega
    ·by_cases c2:j=h4.n+1
     ·simp;omega
     ·by_cases c3:j=h4.n+2
      ·simp;omega
      ·rw [if_neg c,if_neg c1,if_neg c2,if_neg c3] at hj;exact absurd rfl hj
  ·dsimp only
   rw [if_neg (fun hm=>by have:=hSn _ hm;omega),if_neg (by omega),if_neg (by omega),if_pos rfl]
  ·obtain rfl:j=h4.n:=by simpa using hj
   show (if _ then _ else _)=_
   rw [if_neg (fun hm=>by have:=hSn _ hm;omega),if_pos rfl]
  ·obtain rfl:j=h4.n+1:=by simpa using hj
   show (if _ then _ else _)=_
   rw [if_neg (fun hm=>by have:=hSn _ hm;omega),if_neg (by omega),if_pos rfl]
 have f05:=((f04.pushTmp (.cells 0 false (List.replicate p.globals.length (.int .u64 0)))).pushTmp (.cells 0 false [.int .i64 0,.nils,.nilp])).pushTmp (.cells 0 false [tv',gv',fv',.sl h4.n 0 0 p.globals.length 1,.sl (h4.n+1) 0 0 1 3,.nils,.int .u64 0,.nils,.bool false,.int .i64 0])
 have e5:(((h4.push (.cells 0 false (List.replicate p.globals.length (.int .u64 0)))).push (.cells 0 false [.int .i64 0,.nils,.nilp])).push (.cells 0 false [tv',gv',fv',.sl h4.n 0 0 p.globals.length 1,.sl (h4.n+1) 0 0 1 3,.nils,.int .u64 0,.nils,.bool false,.int .i64 0])).get (h.n+1)=.cells 0 false [.int .i64 0,.int .i64 0,.int .i64 0]:=by rw [AHeap.get_push_ne _ _ (by simp;omega),AHeap.get_push_ne _ _ (by simp;omega),AHeap.get_push_ne _ _ (by omega)];exact e4
 have n5:(((h4.push (.cells 0 false (List.replicate p.globals.length (.int .u64 0)))).push (.cells 0 false [.int .i64 0,.nils,.nilp])).push (.cells 0 false [tv',gv',fv',.sl h4.n 0 0 p.globals.length 1,.sl (h4.n+1) 0 0 1 3,.nils,.int .u64 0,.nils,.bool false,.int .i64 0])).n=h4.n+3:=rfl
 have k0:∀ j,j<h3.n→(if j∈S then Tag.ro else if j=h4.n then .globals else if j=h4.n+1 then .things else if j=h4.n+2 then .d else .no)=Tag.no:=fun j hj=>by
  rw [if_neg (fun hm=>by have:=hS j hm;omega),if_neg (by omega),if_neg (by omega),if_neg (by omega)]
 generalize (((h4.push (.cells 0 false (List.replicate p.globals.length (.int .u64 0)))).push (.cells 0 false [.int .i64 0,.nils,.nilp])).push (.cells 0 false [tv',gv',fv',.sl h4.n 0 0 p.globals.length 1,.sl (h4.n+1) 0 0 1 3,.nils,.int .u64 0,.nils,.bool false,.int .i64 0]))=h5 at *
 refine callI_of (beginG P0 (args:=[]) (.inl ⟨rfl,rfl⟩) hn) ?_
 rintro v h6 ⟨γ6,P6,N6⟩
 have e6:=(N6.c.get (h.n+1) (by omega) (fun q=>q (k0 _ (by omega)))).trans e5
 have n6:=N6.c.n
 simp -implicitDefEqProofs (disch:=first|exact dz _|fail) only [↓qJ,qK,qL,qA,qB,qC,qD,qE,↓reduceIte,qG,qH,qI,e6,res_tc]
 subst hQ
 have hd:γ6.d=h4.n+1+1:=N6.d
 refine ⟨γ6,by rw [hd],P6.keep ((Chg.refl (·=.no) h6 γ6.K).set (fun _=>(N6.c.k _ (by omega)).trans (k0 _ (by omega))) _) (fun t ht q=>ht q),⟨by show h.n≤h6.n;omega,by show h6.g=h.g;rw [N6.c.g,f05.g],fun j hj _=>?_,by simp,by simp⟩,fun j hj=>(N6.c.k j (by omega)).trans (k0 j (by omega))⟩
 rw [AHeap.get_set_ne _ _ (by omega),N6.c.get j (by omega) (fun q=>q (k0 j (by omega))),f05.get j hj (by simp)]
end
end Go.Proofs.Ytnbnpjhlflcjeaa.Id