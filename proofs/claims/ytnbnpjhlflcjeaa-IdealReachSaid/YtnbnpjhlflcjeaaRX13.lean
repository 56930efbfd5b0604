/-
 What the functions of this seat do,on the machine: lemmas for the laws.
-/
import Derived.Test.YtnbnpjhlflcjeaaRX6
import Derived.Test.YtnbnpjhlflcjeaaRX12
set_option linter.unusedSimpArgs false
set_option linter.unusedVariables false
set_option maxRecDepth 100000
attribute [local irreducible] Go.AM.wp Go.AM.wpIs Go.AM.wpTr Go.AM.opI Go.AM.gI Go.AM.cI Go.AM.trI Go.AM.callI Go.AM.fnI Go.AM.yldI Go.AM.rangeI Go.AM.rangeC Go.AM.YldP Go.AM.asgQ Go.AM.roundQ Go.AM.rangeQ Go.AM.trG Go.AM.trOp Go.AM.trCall Go.AM.seqC Go.AM.loopI
namespace Go.Proofs.Ytnbnpjhlflcjeaa.Id
open Go Go.AM Go.Proofs.Ytnbnpjhlflcjeaa.AmGR
open Nat renaming reduceAdd → qA,reduceLeDiff → qB,reduceEqDiff → qC,reduceLT → qE
open Int renaming reduceToNat → qD,reduceEq → qG,reduceLT → qH,reduceLE → qI
set_option maxHeartbeats 4000000 in
theorem lawReach {h:AHeap} (x:Int) (hx:0≤x∧x≤255):CallP AP 13 [.int .u8 x] h fun r h'=>r=.bool true:=by
 refine callP (rfl:Tr.get AP 13=some A13) ?_
 generalize hQ:(fun (r:AVal) (h':AHeap)=>_)=Q
 obtain ⟨k,hk,hk30⟩:∃ k:Nat,x.tmod 30=(k:Int)∧k<30:=by
  refine ⟨(x.tmod 30).toNat,?_,?_⟩<;>rw [Int.tmod_eq_emod_of_nonneg hx.1]<;>omega
 have wk:IntKind.i64.wrap (k:Int)=(k:Int):=wrap_i64 (by omega) (by omega)
 obtain ⟨gP,d0,RA,RB,e1,e2,e3,e4,e5⟩:=reRun k hk30
 simp -implicitDefEqProofs (disch:=first|exact dz _|fail) only [↓AM.R0,AM.R1,AM.R2,qA,qB,qC,qD,qE,↓reduceIte,qG,qH,qI,hk,wk,AM.a_buildSlice,List.range,List.range.loop,List.getD_cons_zero,List.getD_cons_succ,Nat.mod_one,Nat.reduceMod,Nat.reduceMul]
 generalize hh1:(AHeap.set (AHeap.push (AHeap.push h _) _) _ _)=h1
 have n1:h1.n=h.n+2:=by rw [←hh1];rfl
 have o1:h1.get (h.n+1)=.cells 0 false [.bool false,.sl h.n 0 0 3 1]:=by rw [←hh1];simp -implicitDefEqProofs (disch:=first|exact dz _|fail) only [↓AM.R0,AM.R1,AM.R2,qA,qB,qC,qD,qE,↓reduceIte,qG,qH,qI]
 have o0:h1.get h.n=.cells 0 false [.int .i64 16,.int .i64 0,.int .i64 0]:=by rw [←hh1];simp -implicitDefEqProofs (disch:=first|exact dz _|fail) only [↓AM.R0,AM.R1,AM.R2,qA,qB,qC,qD,qE,↓reduceIte,qG,qH,qI]
 clear hh1
 refine AM.loopI_of (fun c e h5=>∃ (i:Nat) (cv:AVal) (F:List Nat),c+i=k∧e.val 3=.int .i64 k∧e.val 4=.ptr (h.n+1) 0 0∧e.val 16=.int .i64 k∧e.val 17=.int .i64 i∧e.val 5=cv∧RowsOf h5 6 (InsL []) cv (cRe i) F∧HFrame h1 h5 [] F) k ?_ ?_
 ·refine ⟨0,.nils,[],by omega,?_,?_,?_,?_,?_,RowsOf.nil,HFrame.refl (by simp)⟩<;>(simp -implicitDefEqProofs (disch:=first|exact dz _|fail) only [↓AM.R0,AM.R1,AM.R2,qA,qB,qC,qD,qE,↓reduceIte,qG,qH,qI])<;>rfl
 ·rintro c e h5 ⟨i,cv,F,hci,y3,y4,y16,y17,y5,RC,FR⟩
  have cc:=RC.cells.2
  have cl:=cRe_len i
  have n5:=FR.n
  have wz:IntKind.i64.wrap ((i:Int)+1)=((i+1:Nat):Int):=(wrap64 (by omega) (by omega)).trans (by omega)
  by_cases c1:(i:Int)<k
  ·have d1:decide ((i:Int)<k)=true:=decide_eq_true c1
   simp -implicitDefEqProofs (disch:=first|exact dz _|fail) only [↓AM.R0,AM.R1,AM.R2,qA,qB,qC,qD,qE,↓reduceIte,qG,qH,qI,y3,y4,y16,y17,y5,d1,AM.a_buildSlice,List.range,List.range.loop,List.getD_cons_zero,List.getD_cons_succ,Nat.mod_one,Nat.reduceMod,Nat.reduceMul]
   generalize hh6:(AHeap.push h5 _)=h6
   have gb:h6.get h5.n=.cells 0 false [.int .i64 26,.int .i64 1,.int .i64 0,.int .i64 0,.int .u64 0,.nils,.int .i64 30,.int .i64 1,.int .i64 0,.int .i64 0,.int .u64 0,.nils,.int .i64 2,.int .i64 0,.int .i64 1,.int .i64 0,.int .u64 0,.nils]:=by rw [←hh6];exact AHeap.get_push_same _ _
   have n6:h6.n=h5.n+1:=by rw [←hh6];rfl
   have f6:HFrame h5 h6 [] []:=by rw [←hh6];(repeat (first | with_reducible apply HFrame.pushTmp | with_reducible refine HFrame.setTmp ?_ (by omega) _ | with_reducible exact HFrame.refl (by simp)))
   clear hh6
   have RC6:=RC.frame f6.n fun j hj=>f6.get j (RC.lt j hj) (by simp)
   have R2:SlR h6 6 (InsL []) (.sl h5.n 0 0 3 6) [⟨26,1,0,0,0,[]⟩,⟨30,1,0,0,0,[]⟩,⟨2,0,1,0,0,[]⟩]:=SlR.lit (l:=[(⟨26,1,0,0,0,[]⟩:PIns),⟨30,1,0,0,0,[]⟩,⟨2,0,1,0,0,[]⟩]) (rows:=[[_,_,_,_,_,_],[_,_,_,_,_,_],[_,_,_,_,_,_]]) gb rfl (by omega) (by simp) ⟨⟨by decide,_,rfl,.inl ⟨rfl,rfl⟩⟩,⟨by decide,_,rfl,.inl ⟨rfl,rfl⟩⟩,⟨by decide,_,rfl,.inl ⟨rfl,rfl⟩⟩,trivial⟩
   refine AM.opI_of (RowsOf.appR RC6 R2 (List.cons_ne_nil _ _) (fun _ _ q=>InsL.cl q) (by simp only [List.length_cons,List.length_nil];omega) fun c' h7 F' RC7 f7=>?_)
   have cc7:=RC7.cells.2
   simp -implicitDefEqProofs (disch:=first|exact dz _|fail) only [↓AM.R0,AM.R1,AM.R2,qA,qB,qC,qD,qE,↓reduceIte,qG,qH,qI,y3,y4,y16,y17,y5,wz,cc7]
   exact ⟨c-1,by omega,i+1,c',F',by omega,rfl,rfl,RC7,FR.trans ((f6.wide (by simp) (fun j hj=>.inr hj) RC.lt).trans f7)⟩
  ·have d1:decide ((i:Int)<k)=false:=decide_eq_false c1
   have:i=k:=by omega
   subst this
   simp -implicitDefEqProofs (disch:=first|exact dz _|fail) only [↓AM.R0,AM.R1,AM.R2,qA,qB,qC,qD,qE,↓reduceIte,qG,qH,qI,y3,y4,y16,y17,y5,d1,AM.a_buildSlice,List.range,List.range.loop,List.getD_cons_zero,List.getD_cons_succ,Nat.mod_one,Nat.reduceMod,Nat.reduceMul]
   generalize hh6:(AHeap.push h5 _)=h6
   have gb:h6.get h5.n=.cells 0 false [.int .i64 2,.int .i64 1,.int .i64 2,.int .i64 0,.int .u64 0,.nils,.int .i64 34,.int .i64 0,.int .i64 0,.int .i64 0,.int .u64 0,.nils,.int .i64 2,.int .i64 0,.int .i64 2,.int .i64 0,.int .u64 0,.nils,.int .i64 34,.int .i64 0,.int .i64 2,.int .i64 0,.int .u64 0,.nils,.int .i64 36,.int .i64 0,.int .i64 0,.int .i64 0,.int .u64 0,.nils]:=by rw [←hh6];exact AHeap.get_push_same _ _
   have n6:h6.n=h5.n+1:=by rw [←hh6];rfl
   have f6:HFrame h5 h6 [] []:=by rw [←hh6];(repeat (first | with_reducible apply HFrame.pushTmp | with_reducible refine HFrame.setTmp ?_ (by omega) _ | with_reducible exact HFrame.refl (by simp)))
   clear hh6
   have RC6:=RC.frame f6.n fun j hj=>f6.get j (RC.lt j hj) (by simp)
   have R2:SlR h6 6 (InsL []) (.sl h5.n 0 0 5 6) eRe:=SlR.lit (l:=eRe) (rows:=[[_,_,_,_,_,_],[_,_,_,_,_,_],[_,_,_,_,_,_],[_,_,_,_,_,_],[_,_,_,_,_,_]]) gb rfl (by omega) (by simp) ⟨⟨by decide,_,rfl,.inl ⟨rfl,rfl⟩⟩,⟨by decide,_,rfl,.inl ⟨rfl,rfl⟩⟩,⟨by decide,_,rfl,.inl ⟨rfl,rfl⟩⟩,⟨by decide,_,rfl,.inl ⟨rfl,rfl⟩⟩,⟨by decide,_,rfl,.inl ⟨rfl,rfl⟩⟩,trivial⟩
   refine AM.opI_of (RowsOf.appR RC6 R2 (List.cons_ne_nil _ _) (fun _ _ q=>InsL.cl q) (by rw [cl];simp only [eRe,List.length_cons,List.length_nil];omega) fun c' h7 F' RC7 f7=>?_)
   have cc7:=RC7.cells.2
   have F17:=FR.trans ((f6.wide (by simp) (fun j hj=>.inr hj) RC.lt).trans f7)
   have o17:=(F17.get (h.n+1) (by omega) (by simp)).trans o1
   have o07:=(F17.get h.n (by omega) (by simp)).trans o0
   have n7:=F17.n
   have l7:h.n+1<h7.n:=by omega
   simp -implicitDefEqProofs (disch:=first|exact dz _|fail) only [↓AM.R0,AM.R1,AM.R2,qA,qB,qC,qD,qE,↓reduceIte,qG,qH,qI,y3,y4,y16,y17,y5,cc7,cells1 cc7,o17,AM.a_buildSlice,List.range,List.range.loop,List.getD_cons_zero,List.getD_cons_succ,Nat.mod_one,Nat.reduceMod,Nat.reduceMul]
   generalize hh8:(AHeap.set (AHeap.push (AHeap.push (AHeap.push (AHeap.push (AHeap.push h7 _) _) _) _) _) _ _)=h8
   have f8:HFrame h7 h8 [] []:=by rw [←hh8];(repeat (first | with_reducible apply HFrame.pushTmp | with_reducible refine HFrame.setTmp ?_ (by omega) _ | with_reducible exact HFrame.refl (by simp)))
   have n8:h8.n=h7.n+5:=by rw [←hh8];rfl
   have q0:h8.get h7.n=.cells 0 false [.bool false,.sl h.n 0 0 3 1]:=by rw [←hh8];simp -implicitDefEqProofs (disch:=first|exact dz _|fail) only [↓AM.R0,AM.R1,AM.R2,qA,qB,qC,qD,qE,↓reduceIte,qG,qH,qI]
   have q1:h8.get (h7.n+1)=.cells 0 false [.int .i64 16]:=by rw [←hh8];simp -implicitDefEqProofs (disch:=first|exact dz _|fail) only [↓AM.R0,AM.R1,AM.R2,qA,qB,qC,qD,qE,↓reduceIte,qG,qH,qI]
   have q2:h8.get (h7.n+1+1)=.cells 0 false [.int .i64 16,.int .i64 16,.int .i64 16]:=by rw [←hh8];simp -implicitDefEqProofs (disch:=first|exact dz _|fail) only [↓AM.R0,AM.R1,AM.R2,qA,qB,qC,qD,qE,↓reduceIte,qG,qH,qI]
   have q3:h8.get (h7.n+1+1+1)=.cells 0 false [.int .i64 0,.sl (h7.n+1+1) 0 0 3 1,.nils,c']:=by rw [←hh8];simp -implicitDefEqProofs (disch:=first|exact dz _|fail) only [↓AM.R0,AM.R1,AM.R2,qA,qB,qC,qD,qE,↓reduceIte,qG,qH,qI]
   clear hh8
   have o08:=(f8.get h.n (by omega) (by simp)).trans o07
   have RI:SlR h8 6 (InsR h8) c' (cRe i++eRe):=RC7.slR.mono (fun _ _ q=>q.ins (fun id hid=>by simp at hid)) f8.n fun j hj=>f8.get j hj (by simp)
   have RP:ProgR h8 (pRe i) [.sl h7.n 0 0 1 2,.sl (h7.n+1) 0 0 1 1,.sl (h7.n+1+1+1) 0 0 1 4] :=
    ⟨_,_,_,rfl,SlR.lit (l:=[(false,[16,0,0])]) (rows:=[[_,_]]) q0 rfl (by omega) (by simp) ⟨⟨_,rfl,SlIn.lit (l:=[16,0,0]) o08 rfl (by omega)⟩,trivial⟩,SlIn.lit (l:=[16]) q1 rfl (by omega),
     SlR.lit (l:=[(⟨0,[16,16,16],[],cRe i++eRe⟩:PFunc)]) (rows:=[[_,_,_,_]]) q3 rfl (by omega) (by simp) ⟨⟨_,_,_,rfl,SlIn.lit (l:=[16,16,16]) q2 rfl (by omega),SlIn.nilI,RI⟩,trivial⟩⟩
   obtain ⟨g1,g2,g3⟩:=goodP_get gP
   refine AM.callI_of (newOk RP g1 g2 g3 e1) ?_
   rintro r h9 ⟨γ,rfl,P9,f9,hK⟩
   have n9:=f9.n
   have P10:=P9.tmp (Chg.tmp h9 γ.K (.cells 0 false [.int .i64 0,.int .i64 0,.int .i64 0]) (.cells 0 false [.int .i64 0,.int .i64 0,.int .i64 0]))
   have g10:((h9.push (.cells 0 false [.int .i64 0,.int .i64 0,.int .i64 0])).set h9.n (.cells 0 false [.int .i64 0,.int .i64 0,.int .i64 0])).get h9.n=.cells 0 false [.int .i64 0,.int .i64 0,.int .i64 0]:=AHeap.get_set_same _ _ _
   have n10:((h9.push (.cells 0 false [.int .i64 0,.int .i64 0,.int .i64 0])).set h9.n (.cells 0 false [.int .i64 0,.int .i64 0,.int .i64 0])).n=h9.n+1:=rfl
   simp -implicitDefEqProofs (disch:=first|exact dz _|fail) only [↓AM.R0,AM.R1,AM.R2,qA,qB,qC,qD,qE,↓reduceIte,qG,qH,qI,y3,y4]
   generalize ((h9.push (.cells 0 false [.int .i64 0,.int .i64 0,.int .i64 0])).set h9.n (.cells 0 false [.int .i64 0,.int .i64 0,.int .i64 0]))=h10 at *
   refine AM.callI_of (awake h10) ?_
   rintro r h11 ⟨rfl,f11⟩
   have g11:=(f11.get _ (by omega) (by simp)).trans g10
   have P11:=P10.tmp (Chg.ofH f11)
   have n11:=f11.n
   have w3:IntKind.i64.wrap (IntKind.i64.wrap (3*(i:Int))+3)=((3*i+3:Nat):Int):=by
    rw [wrap_i64 (n:=3*(i:Int)) (by omega) (by omega),wrap_i64 (by omega) (by omega)];omega
   have w4:IntKind.u64.wrap (IntKind.i64.wrap (3*(i:Int)))=((3*i:Nat):Int):=by
    rw [wrap_i64 (n:=3*(i:Int)) (by omega) (by omega),wrapU64 (by omega) (by omega)];omega
   simp -implicitDefEqProofs (disch:=first|exact dz _|fail) only [↓AM.R0,AM.R1,AM.R2,qA,qB,qC,qD,qE,↓reduceIte,qG,qH,qI,y3,y4,g11,w3]
   refine AM.loopI_of (fun c e h12=>∃ (z:Nat) (γ12:GI) (R12:Run),c+z=3*i+3∧e.val 3=.int .i64 i∧e.val 7=.ptr γ.d 0 0∧e.val 60=.int .i64 ((3*i+3:Nat):Int)∧e.val 61=.int .i64 z∧RunP h12 γ12 R12∧Nxt h11 h12 γ γ12∧stepsN c R12=some RA) (3*i+3) ?_ ?_
   ·refine ⟨0,γ,d0,by omega,?_,?_,?_,?_,P11,Nxt.refl _ _,e2⟩<;>(simp -implicitDefEqProofs (disch:=first|exact dz _|fail) only [↓AM.R0,AM.R1,AM.R2,qA,qB,qC,qD,qE,↓reduceIte,qG,qH,qI,y3])<;>rfl
   ·clear P11 P10 P9 y3 y4 y16 y17 y5
    rintro c e h12 ⟨z,γ12,R12,hcz,y3,y7,y60,y61,P12,N12,hs⟩
    by_cases c2:(z:Int)<((3*i+3:Nat):Int)
    ·have d2:decide ((z:Int)<((3*i+3:Nat):Int))=true:=decide_eq_true c2
     have wz2:IntKind.i64.wrap ((z:Int)+1)=((z+1:Nat):Int):=(wrap64 (by omega) (by omega)).trans (by omega)
     obtain ⟨c',rfl⟩:∃ c',c=c'+1:=⟨c-1,by omega⟩
     simp only [stepsN,Option.bind_eq_some_iff] at hs
     obtain ⟨⟨e6,R13⟩,hst,hs⟩:=hs
     simp only at hs
     split at hs
     ·rename_i h6
      subst h6
      simp -implicitDefEqProofs (disch:=first|exact dz _|fail) only [↓AM.R0,AM.R1,AM.R2,qA,qB,qC,qD,qE,↓reduceIte,qG,qH,qI,y3,y7,y60,y61,d2]
      have sS:=step P12 hst
      rw [N12.d] at sS
      refine AM.callI_of sS ?_
      rintro r h13 ⟨rfl,γ13,P13,N13⟩
      simp -implicitDefEqProofs (disch:=first|exact dz _|fail) only [↓AM.R0,AM.R1,AM.R2,qA,qB,qC,qD,qE,↓reduceIte,qG,qH,qI,y3,y7,y60,y61,wz2]
      exact ⟨c',by omega,z+1,γ13,R13,by omega,rfl,P13,N12.trans N13,hs⟩
     ·cases hs
    ·have d2:decide ((z:Int)<((3*i+3:Nat):Int))=false:=decide_eq_false c2
     have:c=0:=by omega
     subst this
     cases hs
     simp -implicitDefEqProofs (disch:=first|exact dz _|fail) only [↓AM.R0,AM.R1,AM.R2,qA,qB,qC,qD,qE,↓reduceIte,qG,qH,qI,y3,y7,y60,y61,d2]
     have sr:=reachG P12 e3
     rw [N12.d] at sr
     refine AM.callI_of sr ?_
     rintro r h13 ⟨rfl,f13⟩
     have P13:=P12.tmp (Chg.ofH f13)
     have b1:decide ((i:Int)=i)=true:=decide_eq_true rfl
     have b2:decide (((3*i:Nat):Int)=((3*i:Nat):Int))=true:=decide_eq_true rfl
     simp -implicitDefEqProofs (disch:=first|exact dz _|fail) only [↓AM.R0,AM.R1,AM.R2,qA,qB,qC,qD,qE,↓reduceIte,qG,qH,qI,y3,y7,b1,b2,w4,Bool.not_true]
     have s1:=step P13 e4
     rw [N12.d] at s1
     refine AM.callI_of s1 ?_
     rintro r h14 ⟨rfl,γ14,P14,N14⟩
     simp -implicitDefEqProofs (disch:=first|exact dz _|fail) only [↓AM.R0,AM.R1,AM.R2,qA,qB,qC,qD,qE,↓reduceIte,qG,qH,qI,y3,y7,Bool.not_true]
     have s2:=reachG P14 e5
     rw [N14.d,N12.d] at s2
     refine AM.callI_of s2 ?_
     rintro r h15 ⟨rfl,f15⟩
     simp -implicitDefEqProofs (disch:=first|exact dz _|fail) only [↓AM.R0,AM.R1,AM.R2,qA,qB,qC,qD,qE,↓reduceIte,qG,qH,qI,y3,y7,Bool.not_true]
     subst hQ
     rfl
end Go.Proofs.Ytnbnpjhlflcjeaa.Id