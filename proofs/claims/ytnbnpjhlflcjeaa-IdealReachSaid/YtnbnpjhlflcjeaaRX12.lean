/-
 What the functions of this seat do,on the machine: lemmas for the laws.
-/
import Derived.Test.YtnbnpjhlflcjeaaRX6
import Derived.Test.YtnbnpjhlflcjeaaRX11
set_option linter.unusedSimpArgs false
set_option linter.unusedVariables false
set_option maxRecDepth 100000
attribute [local irreducible] Go.AM.wp Go.AM.wpIs Go.AM.wpTr Go.AM.opI Go.AM.gI Go.AM.cI Go.AM.trI Go.AM.callI Go.AM.fnI Go.AM.yldI Go.AM.rangeI Go.AM.rangeC Go.AM.YldP Go.AM.asgQ Go.AM.roundQ Go.AM.rangeQ Go.AM.trG Go.AM.trOp Go.AM.trCall Go.AM.seqC Go.AM.loopI
namespace Go.Proofs.Ytnbnpjhlflcjeaa.Id
open Go Go.AM Go.Proofs.Ytnbnpjhlflcjeaa.AmGR
open Nat renaming reduceAdd → qA,reduceLeDiff → qB,reduceEqDiff → qC,reduceLT → qE
open Int renaming reduceToNat → qD,reduceEq → qG,reduceLT → qH,reduceLE → qI
theorem wrap_i64 {n:Int} (h1:-9223372036854775808≤n) (h2:n≤9223372036854775807):IntKind.i64.wrap n=n:=by
 rw [wrap_eq];simp only;split<;>omega
end Go.Proofs.Ytnbnpjhlflcjeaa.Id
namespace Go.Proofs.Ytnbnpjhlflcjeaa.Id
open Go Go.AM Go.Proofs.Ytnbnpjhlflcjeaa.AmGR
open Nat renaming reduceAdd → qA,reduceLeDiff → qB,reduceEqDiff → qC,reduceLT → qE
open Int renaming reduceToNat → qD,reduceEq → qG,reduceLT → qH,reduceLE → qI
end Go.Proofs.Ytnbnpjhlflcjeaa.Id
namespace Go.Proofs.Ytnbnpjhlflcjeaa.Id
open Go Go.AM Go.Proofs.Ytnbnpjhlflcjeaa.AmGR
open Nat renaming reduceAdd → qA,reduceLeDiff → qB,reduceEqDiff → qC,reduceLT → qE
open Int renaming reduceToNat → qD,reduceEq → qG,reduceLT → qH,reduceLE → qI
theorem RowsOf.appR {α:Type} {m:Nat} {R:α→List AVal→Prop} {h:AHeap} {v y:AVal} {l l2:List α} {F:List Nat} (s:RowsOf h m R v l F) (t:SlR h m R y l2) (hne:l2≠[]) (hc:∀ a row,R a row→row.all (·.cell)=true) {bytes:Nat} (hb:(l.length+l2.length)*bytes≤1099511627776) {k:AVal→AHeap→Prop}
  (w:∀ v' h' F',RowsOf h' m R v' (l++l2) F'→HFrame h h' F F'→k v' h'):AM.wpOp (h.app m bytes v y) k:=by
 obtain ⟨rows,s1,s2,s3⟩:=s
 obtain ⟨rows2,t1,t2,t3⟩:=SlR.rows t hc
 have t4:SlRd h m (fun r:Row m=>r.1) y rows2:=by
  rcases t1 with t1 | ⟨e,_⟩
  ·exact t1
  ·subst e;exact absurd (List.eq_nil_of_length_eq_zero t2.symm) hne
 refine SlOf.app (enc:=fun r:Row m=>r.1) s1 t4 (fun a=>a.2.1) (fun a=>a.2.2) (by rw [s2,t2];exact hb) fun v' h' F' s' f'=>w v' h' F' ⟨_,s',by simp [s2,t2],fun i b r' hi hj=>?_⟩ f'
 by_cases hlt:i<l.length
 ·rw [List.getElem?_append_left hlt] at hi
  rw [List.getElem?_append_left (by omega)] at hj
  exact s3 i b r' hi hj
 ·rw [List.getElem?_append_right (by omega)] at hi
  rw [List.getElem?_append_right (by omega)] at hj
  rw [s2] at hj
  exact t3 _ b r' hi hj
theorem InsR.cl {h:AHeap} {i:PIns} {row:List AVal} (r:InsR h i row):row.all (·.cell)=true:=by
 obtain ⟨_,v,rfl,s⟩:=r
 have:=SlIn.cellv s
 simp only [List.all_cons,List.all_nil,this];rfl
end Go.Proofs.Ytnbnpjhlflcjeaa.Id
namespace Go.Proofs.Ytnbnpjhlflcjeaa.Id
open Go Go.AM Go.Proofs.Ytnbnpjhlflcjeaa.AmGR
open Nat renaming reduceAdd → qA,reduceLeDiff → qB,reduceEqDiff → qC,reduceLT → qE
open Int renaming reduceToNat → qD,reduceEq → qG,reduceLT → qH,reduceLE → qI
/-! IdealLate. -/
def cLate1:List Nat→List PIns
 | []=>[]
 | v::l=>⟨1,1,0,0,v,[]⟩::⟨38,1,0,0,0,[1]⟩::cLate1 l
def cLate (l:List Nat):List PIns:=cLate1 l++[⟨1,1,0,0,999,[]⟩,⟨36,0,0,0,0,[]⟩]
end Go.Proofs.Ytnbnpjhlflcjeaa.Id
namespace Go.Proofs.Ytnbnpjhlflcjeaa.Id
open Go Go.AM Go.Proofs.Ytnbnpjhlflcjeaa.AmGR
open Nat renaming reduceAdd → qA,reduceLeDiff → qB,reduceEqDiff → qC,reduceLT → qE
open Int renaming reduceToNat → qD,reduceEq → qG,reduceLT → qH,reduceLE → qI
def InsL (S:List Nat) (i:PIns) (row:List AVal):Prop:=i.imm≤18446744073709551615∧∃ v,row=[.int .i64 i.op,.int .i64 i.a,.int .i64 i.b,.int .i64 i.c,.int .u64 i.imm,v]∧((v=.nils∧i.list=[])∨∃ id,id∈S∧v=.sl id 0 0 1 1∧i.list=[1])
def Ones (h:AHeap) (S:List Nat):Prop:=∀ id,id∈S→h.get id=.cells 0 false [.int .i64 1]∧id<h.n
theorem InsL.cl {S:List Nat} {i:PIns} {row:List AVal} (r:InsL S i row):row.all (·.cell)=true:=by
 obtain ⟨_,v,rfl,s⟩:=r
 rcases s with ⟨rfl,_⟩ | ⟨id,_,rfl,_⟩<;>rfl
theorem InsL.ins {h:AHeap} {S:List Nat} (o:Ones h S) {i:PIns} {row:List AVal} (r:InsL S i row):InsR h i row:=by
 obtain ⟨a,v,rfl,s⟩:=r
 refine ⟨a,v,rfl,?_⟩
 rcases s with ⟨rfl,e⟩ | ⟨id,hid,rfl,e⟩
 ·rw [e];exact SlIn.nilI
 ·rw [e];exact SlIn.lit (l:=[1]) (o id hid).1 rfl (o id hid).2
theorem InsL.more {S S':List Nat} (hs:∀ j,j∈S→j∈S') {i:PIns} {row:List AVal} (r:InsL S i row):InsL S' i row:=by
 obtain ⟨a,v,e,s⟩:=r
 exact ⟨a,v,e,s.imp id fun ⟨id,hid,q⟩=>⟨id,hs id hid,q⟩⟩
end Go.Proofs.Ytnbnpjhlflcjeaa.Id
namespace Go.Proofs.Ytnbnpjhlflcjeaa.Id
open Go Go.AM Go.Proofs.Ytnbnpjhlflcjeaa.AmGR
open Nat renaming reduceAdd → qA,reduceLeDiff → qB,reduceEqDiff → qC,reduceLT → qE
open Int renaming reduceToNat → qD,reduceEq → qG,reduceLT → qH,reduceLE → qI
section
variable {h h' h1:AHeap} {γ:GI} {R:Run}
end
end Go.Proofs.Ytnbnpjhlflcjeaa.Id
namespace Go.Proofs.Ytnbnpjhlflcjeaa.Id
open Go Go.AM Go.Proofs.Ytnbnpjhlflcjeaa.AmGR
open Nat renaming reduceAdd → qA,reduceLeDiff → qB,reduceEqDiff → qC,reduceLT → qE
open Int renaming reduceToNat → qD,reduceEq → qG,reduceLT → qH,reduceLE → qI
end Go.Proofs.Ytnbnpjhlflcjeaa.Id
namespace Go.Proofs.Ytnbnpjhlflcjeaa.Id
open Go Go.AM Go.Proofs.Ytnbnpjhlflcjeaa.AmGR
open Nat renaming reduceAdd → qA,reduceLeDiff → qB,reduceEqDiff → qC,reduceLT → qE
open Int renaming reduceToNat → qD,reduceEq → qG,reduceLT → qH,reduceLE → qI
end Go.Proofs.Ytnbnpjhlflcjeaa.Id
namespace Go.Proofs.Ytnbnpjhlflcjeaa.Id
open Go Go.AM Go.Proofs.Ytnbnpjhlflcjeaa.AmGR
open Nat renaming reduceAdd → qA,reduceLeDiff → qB,reduceEqDiff → qC,reduceLT → qE
open Int renaming reduceToNat → qD,reduceEq → qG,reduceLT → qH,reduceLE → qI
/-! Reach: what can be reached. -/
abbrev encS (b:Bool):List AVal:=[.bool b]
abbrev Seen:=List Bool×List Int
def putF (k w:Int) (st:Seen):Option Seen :=
 if 16≤k∧w≠0 then (at? st.1 w).bind fun b=>if b then some st else (lim st.2 1000000).map fun _=>(st.1.set w.toNat true,st.2++[w]) else some st
def CS.vals (s:CS):List Int:=s.ps++s.ss.map (·.2)
structure PutV (h:AHeap) (s t:Nat) (seen:List Bool) (todo:List Int) (sv tv:AVal) (Fs Ft:List Nat):Prop where
 os:h.get s=.cells 0 false [sv]
 ot:h.get t=.cells 0 false [tv]
 ls:s<h.n
 lt:t<h.n
 vs:SlX h 1 encS sv seen Fs
 vt:SlX h 1 encP tv todo Ft
 nd:(s::t::(Fs++Ft)).Nodup
def PutP (h:AHeap) (s t:Nat) (st:Seen) (F:List Nat):Prop:=∃ sv tv Fs Ft,PutV h s t st.1 st.2 sv tv Fs Ft∧F=s::t::(Fs++Ft)
section
variable {h h':AHeap} {s t:Nat} {st st':Seen} {F F':List Nat}
theorem SlX.nd {h:AHeap} {esz:Nat} {α:Type} {enc:α→List AVal} {v:AVal} {l:List α} {F:List Nat} (s:SlX h esz enc v l F):F.Nodup:=by
 rcases s with ⟨_,_,rfl⟩ | ⟨_,_,_,_,_,_,_,_,_,rfl⟩<;>simp
theorem PutP.frame (V:PutP h s t st F) (hn:h.n≤h'.n) (k:∀ j,j∈F→h'.get j=h.get j):PutP h' s t st F:=by
 obtain ⟨sv,tv,Fs,Ft,⟨a,b,c,d,e,f,g⟩,rfl⟩:=V
 exact ⟨sv,tv,Fs,Ft,⟨(k _ (by simp)).trans a,(k _ (by simp)).trans b,Nat.lt_of_lt_of_le c hn,Nat.lt_of_lt_of_le d hn,e.frame hn fun j hj=>k j (by simp [hj]),f.frame hn fun j hj=>k j (by simp [hj]),g⟩,rfl⟩
theorem PutP.ltn (V:PutP h s t st F):∀ j,j∈F→j<h.n:=by
 obtain ⟨sv,tv,Fs,Ft,⟨a,b,c,d,e,f,g⟩,rfl⟩:=V
 intro j hj
 simp only [List.mem_cons,List.mem_append] at hj
 rcases hj with rfl | rfl | hj | hj
 ·exact c
 ·exact d
 ·exact e.lt j hj
 ·exact f.lt j hj
theorem putS (V:PutP h s t st F) {k w:Int} (hp:putF k w st=some st'):CallP AP 49 [.int .i64 k,.int .u64 w,.ptr s 0 0,.ptr t 0 0] h fun r h'=>∃ F',PutP h' s t st' F'∧HFrame h h' F F':=by
 have hl:=V.ltn
 obtain ⟨seen,todo⟩:=st
 obtain ⟨sv,tv,Fs,Ft,⟨a,b,c,d,e,f,g⟩,rfl⟩:=V
 refine callP (rfl:Tr.get AP 49=some A49) ?_
 generalize hQ:(fun (r:AVal) (h':AHeap)=>_)=Q
 have isref:∀ (h:AHeap),CallP AP 50 [.int .i64 k] h fun r h'=>r=.bool (decide (16≤k))∧h'=h:=fun h=>by
  refine callP (rfl:Tr.get AP 50=some A50) ?_
  simp -implicitDefEqProofs (disch:=first|exact dz _|fail) only [↓AM.R0,AM.R1,AM.R2,qA,qB,qC,qD,qE,↓reduceIte,qG,qH,qI]
 unfold putF at hp
 simp only at hp e f
 have V0:PutP h s t (seen,todo) (s::t::(Fs++Ft)):=⟨sv,tv,Fs,Ft,⟨a,b,c,d,e,f,g⟩,rfl⟩
 simp -implicitDefEqProofs (disch:=first|exact dz _|fail) only [↓AM.R0,AM.R1,AM.R2,qA,qB,qC,qD,qE,↓reduceIte,qG,qH,qI]
 refine AM.callI_of (isref h) ?_
 rintro r h1 ⟨rfl,rfl⟩
 by_cases c1:16≤k
 ·have d1:decide (16≤k)=true:=decide_eq_true c1
  by_cases c2:w=0
  ·rw [if_neg (fun q=>q.2 c2)] at hp
   cases hp
   have d2:decide (w=0)=true:=decide_eq_true c2
   simp -implicitDefEqProofs (disch:=first|exact dz _|fail) only [↓AM.R0,AM.R1,AM.R2,qA,qB,qC,qD,qE,↓reduceIte,qG,qH,qI,d1,d2,Bool.not_true]
   subst hQ
   exact ⟨_,V0,HFrame.refl hl⟩
  ·rw [if_pos ⟨c1,c2⟩] at hp
   have d2:decide (w=0)=false:=decide_eq_false c2
   cases hb:at? seen w with
   | none=>rw [hb] at hp;cases hp
   | some x =>
    rw [hb] at hp
    obtain ⟨w0,w1,w2⟩:=at?_nat hb
    obtain ⟨id,g0,off,vs,e1,e2,e3,e4,e5,e6,e7,e8⟩:=SlX.at1 (enc:=fun b=>.bool b) e w1
    have ew:((w.toNat:Nat):Int)=w:=by omega
    rw [ew] at e5
    cases x with
    | true =>
     cases hp
     simp -implicitDefEqProofs (disch:=first|exact dz _|fail) only [↓AM.R0,AM.R1,AM.R2,qA,qB,qC,qD,qE,↓reduceIte,qG,qH,qI,d1,d2,Bool.not_true,Bool.not_false,a,e3,e5,e6]
     subst hQ
     exact ⟨_,V0,HFrame.refl hl⟩
    | false =>
     simp only [Option.bind_some,Bool.false_eq_true,if_false] at hp
     cases hlm:lim todo 1000000 with
     | none=>rw [hlm] at hp;cases hp
     | some u =>
      rw [hlm] at hp
      cases hp
      have hlt:=lim_lt hlm
      have nid:id≠s∧id≠t∧id ∉ Ft:=by
       subst e2
       simp only [List.nodup_cons,List.mem_cons,List.mem_append,List.singleton_append] at g
       refine ⟨fun q=>g.1 (by simp [q]),fun q=>g.2.1 (by simp [q]),fun q=>?_⟩
       have h9:=g.2.2
       exact h9.1 q
      have nst:t≠s:=fun q=>by
       simp only [List.nodup_cons,List.mem_cons,List.mem_append] at g
       exact g.1 (by simp [q])
      simp -implicitDefEqProofs (disch:=first|exact dz _|fail) only [↓AM.R0,AM.R1,AM.R2,qA,qB,qC,qD,qE,↓reduceIte,qG,qH,qI,d1,d2,Bool.not_true,Bool.not_false,a,e3,e5,e6,e7]
      obtain ⟨h2,hh2⟩:∃ h2,h2=h1.set id (.cells g0 false (vs.take (off+w.toNat)++[.bool true]++vs.drop (off+w.toNat+1))):=⟨_,rfl⟩
      rw [←hh2]
      have n2:h2.n=h1.n:=by rw [hh2];rfl
      have k2:∀ j,j≠id→h2.get j=h1.get j:=fun j hj=>by rw [hh2];exact AHeap.get_set_ne _ _ hj
      have E2:=e8 h2 true (by omega) (by rw [hh2];exact AHeap.get_set_same _ _ _)
      have F2:=f.frame (h':=h2) (by omega) fun j hj=>k2 j fun q=>nid.2.2 (q ▸ hj)
      have b2:=(k2 t (Ne.symm nid.2.1)).trans b
      have a2:=(k2 s (Ne.symm nid.1)).trans a
      have f2:HFrame h1 h2 (s::t::(Fs++Ft)) (s::t::(Fs++Ft)):=by
       exact ⟨by omega,by rw [hh2];rfl,fun j hj hn=>k2 j fun q=>hn (by subst q e2;simp),fun j hj=>.inl hj,fun j hj=>by have:=hl j hj;omega⟩
      clear hh2
      have cw:(encP w).all (·.cell)=true:=rfl
      have ct:=F2.cells
      simp -implicitDefEqProofs (disch:=first|exact dz _|fail) only [↓AM.R0,AM.R1,AM.R2,qA,qB,qC,qD,qE,↓reduceIte,qG,qH,qI,b,ct,AM.a_buildSlice,List.range,List.range.loop,List.getD_cons_zero,Nat.mod_one]
      refine AM.opI_of (F2.app1 (fun _=>rfl) w cw (by omega) fun v' h3 Ft' s3 f3=>?_)
      have nF:∀ j,j∈s::t::Fs→j ∉ Ft:=fun j hj q=>by
       simp only [List.nodup_cons,List.mem_cons,List.mem_append,List.nodup_append] at g
       simp only [List.mem_cons] at hj
       rcases hj with rfl | rfl | hj
       ·exact g.1 (by simp [q])
       ·exact g.2.1 (by simp [q])
       ·exact g.2.2.2.2 _ hj _ q rfl
      have lF:∀ j,j∈s::t::Fs→j<h2.n:=fun j hj=>by
       have:=hl j (by simp only [List.mem_cons,List.mem_append] at hj ⊢;rcases hj with q | q | q<;>simp [q])
       omega
      have b3:=(f3.get t (lF t (by simp)) (nF t (by simp))).trans b2
      have a3:=(f3.get s (lF s (by simp)) (nF s (by simp))).trans a2
      have E3:=E2.frame f3.n fun j hj=>f3.get j (lF j (by simp [hj])) (nF j (by simp [hj]))
      have n3:=f3.n
      have t3:t<h3.n:=by have:=lF t (by simp);omega
      have s3':s<h3.n:=by have:=lF s (by simp);omega
      have c3:=s3.cells
      simp -implicitDefEqProofs (disch:=first|exact dz _|fail) only [↓AM.R0,AM.R1,AM.R2,qA,qB,qC,qD,qE,↓reduceIte,qG,qH,qI,b3,c3]
      subst hQ
      have nF':=f3.dis (B:=s::t::Fs) nF lF
      have t3s:t≠s:=nst
      have ntF:∀ j,j∈Fs++Ft'→j≠t:=fun j hj q=>by
       subst q
       rcases List.mem_append.1 hj with q | q
       ·simp only [List.nodup_cons,List.mem_cons,List.mem_append] at g
        exact g.2.1 (.inl q)
       ·exact nF' _ (by simp) q
      refine ⟨s::t::(Fs++Ft'),⟨sv,v',Fs,Ft',⟨?_,AHeap.get_set_same _ _ _,s3',t3,?_,?_,?_⟩,rfl⟩,f2.trans ⟨?_,f3.g,fun j hj hn=>?_,fun j hj=>?_,fun j hj=>?_⟩⟩
      ·rw [AHeap.get_set_ne _ _ (Ne.symm nst)];exact a3
      ·exact E3.frame (Nat.le_refl _) fun j hj=>AHeap.get_set_ne _ _ (ntF j (by simp [hj]))
      ·exact s3.frame (Nat.le_refl _) fun j hj=>AHeap.get_set_ne _ _ (ntF j (by simp [hj]))
      ·simp only [List.nodup_cons,List.mem_cons,List.mem_append,List.nodup_append] at g ⊢
       refine ⟨?_,?_,g.2.2.1,s3.nd,fun a ha b hb q=>nF' a (by simp [ha]) (q ▸ hb)⟩
       ·rintro (q | q | q)
        ·exact g.1 (by simp [q])
        ·exact g.1 (by simp [q])
        ·exact nF' s (by simp) q
       ·rintro (q | q)
        ·exact g.2.1 (by simp [q])
        ·exact nF' t (by simp) q
      ·exact n3
      ·rw [AHeap.get_set_ne _ _ (fun q=>hn (by simp [q]))]
       exact f3.get j hj fun q=>hn (by simp [q])
      ·simp only [List.mem_cons,List.mem_append] at hj ⊢
       rcases hj with q | q | q | q
       ·simp [q]
       ·simp [q]
       ·simp [q]
       ·rcases f3.new j q with z | z
        ·simp [z]
        ·exact .inr z
      ·simp only [List.mem_cons,List.mem_append] at hj
       show j<h3.n
       rcases hj with q | q | q | q
       ·omega
       ·omega
       ·have:=lF j (by simp [q]);omega
       ·exact f3.lt j q
 ·rw [if_neg (fun q=>c1 q.1)] at hp
  cases hp
  have d1:decide (16≤k)=false:=decide_eq_false c1
  simp -implicitDefEqProofs (disch:=first|exact dz _|fail) only [↓AM.R0,AM.R1,AM.R2,qA,qB,qC,qD,qE,↓reduceIte,qG,qH,qI,d1]
  subst hQ
  exact ⟨_,V0,HFrame.refl hl⟩
end
end Go.Proofs.Ytnbnpjhlflcjeaa.Id
namespace Go.Proofs.Ytnbnpjhlflcjeaa.Id
open Go Go.AM Go.Proofs.Ytnbnpjhlflcjeaa.AmGR
open Nat renaming reduceAdd → qA,reduceLeDiff → qB,reduceEqDiff → qC,reduceLT → qE
open Int renaming reduceToNat → qD,reduceEq → qG,reduceLT → qH,reduceLE → qI
def putIx (arr:Bool) (ks:List Int):Nat→List Int→Seen→Option Seen
 | _,[],st=>some st
 | i,w::ws,st=>(ks[if arr then 0 else i]?).bind fun k=>(putF k w st).bind fun st=>putIx arr ks (i+1) ws st
def putL (arr:Bool) (ks ws:List Int) (st:Seen):Option Seen:=(lim ws 1000000).bind fun _=>putIx arr ks 0 ws st
def foldO {α σ:Type} (g:α→σ→Option σ):List α→σ→Option σ
 | [],s=>some s
 | a::l,s=>(g a s).bind fun s=>foldO g l s
def foldL {α σ:Type} (g:α→σ→Option σ) (l:List α) (s:σ):Option σ:=(lim l 1000000).bind fun _=>foldO g l s
theorem putIx_at {arr:Bool} {ks ws:List Int} {i:Nat} {st st':Seen} {w:Int} (e:putIx arr ks i (ws.drop i) st=some st') (hw:ws[i]?=some w):∃ k st1,ks[if arr then 0 else i]?=some k∧putF k w st=some st1∧putIx arr ks (i+1) (ws.drop (i+1)) st1=some st':=by
 have hi:=(List.getElem?_eq_some_iff.1 hw)
 obtain ⟨h1,h2⟩:=hi
 rw [List.drop_eq_getElem_cons h1,h2] at e
 simp only [putIx,Option.bind_eq_some_iff] at e
 obtain ⟨k,e1,st1,e2,e3⟩:=e
 exact ⟨k,st1,e1,e2,e3⟩
theorem foldO_at {α σ:Type} {g:α→σ→Option σ} {l:List α} {i:Nat} {st st':σ} {a:α} (e:foldO g (l.drop i) st=some st') (ha:l[i]?=some a):∃ st1,g a st=some st1∧foldO g (l.drop (i+1)) st1=some st':=by
 obtain ⟨h1,h2⟩:=List.getElem?_eq_some_iff.1 ha
 rw [List.drop_eq_getElem_cons h1,h2] at e
 simp only [foldO,Option.bind_eq_some_iff] at e
 exact e
structure Vis (h0 h:AHeap) (γ:GI) (R:Run) (s t:Nat) (st:Seen) (F:List Nat):Prop where
 P:RunP h γ R
 V:PutP h s t st F
 no:∀ j,j∈F→γ.K j=.no
 fr:HFrame h0 h [] F
section
variable {h0 h h':AHeap} {γ:GI} {R:Run} {s t:Nat} {st st':Seen} {F F':List Nat}
theorem Vis.put (X:Vis h0 h γ R s t st F) (f:HFrame h h' F F') (V:PutP h' s t st' F'):Vis h0 h' γ R s t st' F' :=
 ⟨X.P.keep (Chg.of (T:=fun t=>t=.no) f fun j hj _=>X.no j hj) fun _ n e=>n e,V,fun j hj=>(f.new j hj).elim (X.no j) fun q=>Classical.byContradiction fun e=>by have:=X.P.k0 j e;omega,X.fr.trans f⟩
theorem Vis.tmp (X:Vis h0 h γ R s t st F) (f:HFrame h h' [] []):Vis h0 h' γ R s t st F :=
 X.put (f.wide (by simp) (fun j hj=>.inr hj) X.V.ltn) (X.V.frame f.n fun j hj=>f.get j (X.V.ltn j hj) (by simp))
theorem chVals {h:AHeap} {c:Nat} {s:CS} {F:List Nat} (H:ChanAt h c s F) (hr:smallB s=true) :
  CallP AP 72 [.ptr c 0 0] h fun r h'=>∃ Fl,SlOf h' 1 encP r s.vals Fl∧HFrame h h' [] Fl:=by
 simp only [smallB,Bool.and_eq_true,decide_eq_true_eq] at hr
 obtain ⟨⟨r1,r2⟩,r3⟩:=hr
 refine callP (rfl:Tr.get AP 72=some A72) ?_
 generalize hQ:(fun (r:AVal) (h':AHeap)=>_)=Q
 obtain ⟨pv,sv,gv,Fp,Fs,Fg,H0,rfl⟩:=H
 have hlt0:=H0.lt
 have ho:=H0.obj
 have ls:=H0.hs.len
 simp -implicitDefEqProofs (disch:=first|exact dz _|fail) only [↓AM.R0,AM.R1,AM.R2,qA,qB,qC,qD,qE,↓reduceIte,qG,qH,qI,ho]
 refine AM.opI_of (SlOf.app (l:=([]:List Int)) (F:=[]) (esz:=1) (enc:=encP) SlOf.nil H0.hp.rd (fun _=>rfl) (fun _=>rfl) (by simp only [List.length_nil];omega) fun v1 h1 F1 q1 f1=>?_)
 simp only [List.nil_append] at q1
 have ho1:=(f1.get c hlt0 (by simp)).trans ho
 have hlt1:c<h1.n:=Nat.lt_of_lt_of_le hlt0 f1.n
 simp -implicitDefEqProofs (disch:=first|exact dz _|fail) only [↓AM.R0,AM.R1,AM.R2,qA,qB,qC,qD,qE,↓reduceIte,qG,qH,qI,ho1,ls]
 refine AM.loopI_of (fun k e h'=>∃ (i:Nat) (rv:AVal) (F':List Nat),k+i=s.ss.length∧e.val 16=sv∧e.val 17=.int .i64 s.ss.length∧e.val 18=.int .i64 i∧e.val 3=rv∧SlOf h' 1 encP rv (s.ps++(s.ss.take i).map (·.2)) F'∧HFrame h h' [] F') s.ss.length ?_ ?_
 ·refine ⟨0,v1,F1,by simp,?_,?_,?_,?_,by simpa using q1,f1⟩<;>simp -implicitDefEqProofs (disch:=first|exact dz _|fail) only [↓AM.R0,AM.R1,AM.R2,qA,qB,qC,qD,qE,↓reduceIte,qG,qH,qI]<;>rfl
 ·rintro k e h' ⟨i,rv,F',hk,e16,e17,e18,e3,hS,hf⟩
  simp -implicitDefEqProofs (disch:=first|exact dz _|fail) only [↓AM.R0,AM.R1,AM.R2,qA,qB,qC,qD,qE,↓reduceIte,qG,qH,qI,e16,e17,e18,e3]
  refine AM.cI_bool (fun hb=>?_) (fun hb=>?_)
  ·simp only [decide_eq_true_eq] at hb
   have hi:i<s.ss.length:=by omega
   obtain ⟨a,ha⟩:∃ a,s.ss[i]?=some a:=⟨_,List.getElem?_eq_getElem hi⟩
   obtain ⟨j,g,off,vs,ro,x1,x2,x3,x4,x5⟩:=(H0.hs.rd.keep hf).ix (fun _=>rfl) ha .i64
   have hw:IntKind.i64.wrap ((i:Int)+1)=((i+1:Nat):Int):=wrap64 (by omega) (by omega)
   have g2:=(hf.pushTmp (.cells 0 false [.int .i64 0,.int .u64 0])).setTmp (i:=h'.n) hf.n (.cells 0 false (encW a))
   have hS2:=hS.tmp (.cells 0 false [.int .i64 0,.int .u64 0]) (.cells 0 false (encW a))
   simp -implicitDefEqProofs (disch:=first|exact dz _|fail) only [↓AM.R0,AM.R1,AM.R2,qA,qB,qC,qD,qE,↓reduceIte,qG,qH,qI,e16,e17,e18,e3,x1,x2,x5]
   refine AM.opI_of (hS2.app1 (fun _=>rfl) (fun _=>rfl) (by simp;omega) a.2 fun v' h'' F'' s'' f''=>?_)
   simp -implicitDefEqProofs (disch:=first|exact dz _|fail) only [↓AM.R0,AM.R1,AM.R2,qA,qB,qC,qD,qE,↓reduceIte,qG,qH,qI,e16,e17,e18,e3,hw]
   refine ⟨s.ss.length-(i+1),by omega,i+1,v',F'',by omega,rfl,rfl,?_,g2.trans f''⟩
   rw [List.take_add_one,ha,List.map_append,←List.append_assoc]
   exact s''
  ·have hi:i=s.ss.length:=by simp only [decide_eq_false_iff_not] at hb;omega
   subst hi
   rw [List.take_length] at hS
   simp -implicitDefEqProofs (disch:=first|exact dz _|fail) only [↓AM.R0,AM.R1,AM.R2,qA,qB,qC,qD,qE,↓reduceIte,qG,qH,qI,e16,e17,e18,e3]
   subst hQ
   exact ⟨F',hS,hf⟩
def sizeF (p:PProg) (t:Thing):Option Int :=
 if t.kind<64 then (at? p.types (i64 (t.kind-16))).map fun ty=>if ty.1 then u64 (i64 ((t.words.length:Int)+1)) else u64 t.words.length
 else some (u64 t.words.length)
theorem sizeS (P:RunP h γ R) {n:Nat} {x:Int×AVal×AVal} {t:Thing} (hx:γ.th[n]?=some x) (ht:R.things[n]?=some t) {z:Int} (hp:sizeF R.p t=some z) :
  CallP AP 52 [.ptr γ.d 0 0,.agg [.int .i64 x.1,x.2.1,x.2.2]] h fun v h'=>v=.int .u64 z∧HFrame h h' [] []:=by
 refine callP (rfl:Tr.get AP 52=some A52) ?_
 generalize hQ:(fun (r:AVal) (h':AHeap)=>_)=Q
 obtain ⟨x',hx',T⟩:=P.th1 ht
 rw [hx] at hx';cases hx'
 obtain ⟨kd,wv,cv⟩:=x
 have hk:=T.kind
 simp only at hk T
 subst hk
 have wc:=T.words.cells
 have wl:=T.words.len
 have P1:=P.tmp ((Chg.refl (fun _=>False) h γ.K).push (.cells 0 false [.int .i64 t.kind,wv,cv]))
 have ho:=P1.obj
 have hlt:=P1.ltd
 have cc:cv.cell=true:=by
  have:=T.ch
  unfold ChP at this
  cases h:t.ch with
  | none=>rw [h] at this;simp only at this;subst this;rfl
  | some s=>rw [h] at this;obtain ⟨c,F,rfl,_⟩:=this;rfl
 unfold sizeF at hp
 by_cases c1:t.kind<64
 ·rw [if_pos c1] at hp
  have d1:decide (t.kind<64)=true:=decide_eq_true c1
  simp only [Option.map_eq_some_iff] at hp
  obtain ⟨ty,e1,e2⟩:=hp
  obtain ⟨idp,gp,offp,vsp,rop,row,p1,p2,p3,p4,p5,p6,p7,tv,rfl,s1p⟩:=P1.prog.t.ix e1
  have p8:vsp[offp]?=some (.bool ty.1):=row_at (i:=0) p6 (by omega)
  unfold i64 at p1
  cases hty:ty.1 with
  | true =>
   rw [hty] at e2 p8
   simp only [if_true] at e2
   unfold u64 i64 at e2
   simp -implicitDefEqProofs (disch:=first|exact dz _|fail) only [↓AM.R0,AM.R1,AM.R2,qA,qB,qC,qD,qE,↓reduceIte,qG,qH,qI,wc.1,wc.2,cells1 cc,cc,d1,ho,p1,p2,p8,wl,e2]
   subst hQ
   exact ⟨rfl,by (repeat (first | with_reducible apply HFrame.pushTmp | with_reducible refine HFrame.setTmp ?_ (by omega) _ | with_reducible exact HFrame.refl (by simp)))⟩
  | false =>
   rw [hty] at e2 p8
   simp only [Bool.false_eq_true,if_false] at e2
   unfold u64 at e2
   simp -implicitDefEqProofs (disch:=first|exact dz _|fail) only [↓AM.R0,AM.R1,AM.R2,qA,qB,qC,qD,qE,↓reduceIte,qG,qH,qI,wc.1,wc.2,cells1 cc,cc,d1,ho,p1,p2,p8,wl,e2]
   subst hQ
   exact ⟨rfl,by (repeat (first | with_reducible apply HFrame.pushTmp | with_reducible refine HFrame.setTmp ?_ (by omega) _ | with_reducible exact HFrame.refl (by simp)))⟩
 ·rw [if_neg c1] at hp
  have d1:decide (t.kind<64)=false:=decide_eq_false c1
  cases hp
  simp -implicitDefEqProofs (disch:=first|exact dz _|fail) only [↓AM.R0,AM.R1,AM.R2,qA,qB,qC,qD,qE,↓reduceIte,qG,qH,qI,wc.1,wc.2,cells1 cc,cc,d1,wl]
  subst hQ
  exact ⟨rfl,by (repeat (first | with_reducible apply HFrame.pushTmp | with_reducible refine HFrame.setTmp ?_ (by omega) _ | with_reducible exact HFrame.refl (by simp)))⟩
end
end Go.Proofs.Ytnbnpjhlflcjeaa.Id
namespace Go.Proofs.Ytnbnpjhlflcjeaa.Id
open Go Go.AM Go.Proofs.Ytnbnpjhlflcjeaa.AmGR
open Nat renaming reduceAdd → qA,reduceLeDiff → qB,reduceEqDiff → qC,reduceLT → qE
open Int renaming reduceToNat → qD,reduceEq → qG,reduceLT → qH,reduceLE → qI
def fieldsF (p:PProg) (t:Thing) (st:Seen):Option Seen:=match t.ch with
 | some c=>if smallB c=true then foldL (fun w st=>putF (i64 (t.kind-64)) w st) c.vals st else none
 | none=>(at? p.types (i64 (t.kind-16))).bind fun ty=>putL ty.1 ty.2 t.words st
abbrev putV (a b:Nat):AVal:=.fn (.func 49) [] [.ptr a 0 0,.ptr b 0 0]
section
variable {h0 h h':AHeap} {γ:GI} {R:Run} {a b:Nat} {st st':Seen} {F F':List Nat}
theorem Vis.call (X:Vis h0 h γ R a b st F) {k w:Int} (hp:putF k w st=some st'):CallP AP 49 [.int .i64 k,.int .u64 w,.ptr a 0 0,.ptr b 0 0] h fun r h'=>∃ F',Vis h0 h' γ R a b st' F'∧HFrame h h' F F' :=
 (putS X.V hp).mono fun _ _ ⟨F',V,f⟩=>⟨F',X.put f V,f⟩
theorem fieldsS (X:Vis h0 h γ R a b st F) {n:Nat} {x:Int×AVal×AVal} {t:Thing} (hx:γ.th[n]?=some x) (ht:R.things[n]?=some t) (hp:fieldsF R.p t st=some st') :
  CallP AP 53 [.ptr γ.d 0 0,.agg [.int .i64 x.1,x.2.1,x.2.2],putV a b] h fun v h'=>∃ F',Vis h0 h' γ R a b st' F':=by
 refine callP (rfl:Tr.get AP 53=some A53) ?_
 generalize hQ:(fun (r:AVal) (h':AHeap)=>_)=Q
 obtain ⟨x',hx',T0⟩:=X.P.th1 ht
 rw [hx] at hx';cases hx'
 obtain ⟨kd,wv,cv⟩:=x
 have hk:=T0.kind
 simp only at hk T0
 subst hk
 have wc:=T0.words.cells
 have wl:=T0.words.len
 have cc:cv.cell=true:=by
  have:=T0.ch
  unfold ChP at this
  cases h:t.ch with
  | none=>rw [h] at this;simp only at this;subst this;rfl
  | some s=>rw [h] at this;obtain ⟨c,F,rfl,_⟩:=this;rfl
 simp -implicitDefEqProofs (disch:=first|exact dz _|fail) only [↓AM.R0,AM.R1,AM.R2,qA,qB,qC,qD,qE,↓reduceIte,qG,qH,qI,wc.1,wc.2,cells1 cc,cc]
 generalize hh1:h.push (.cells 0 false [.int .i64 t.kind,wv,cv])=h1
 have o1:h1.get h.n=.cells 0 false [.int .i64 t.kind,wv,cv]:=by rw [←hh1];exact AHeap.get_push_same _ _
 have n1:h1.n=h.n+1:=by rw [←hh1];rfl
 have f1:HFrame h h1 [] []:=by rw [←hh1];(repeat (first | with_reducible apply HFrame.pushTmp | with_reducible refine HFrame.setTmp ?_ (by omega) _ | with_reducible exact HFrame.refl (by simp)))
 have X1:=X.tmp f1
 clear hh1
 obtain ⟨x',hx',T⟩:=X1.P.th1 ht
 rw [hx] at hx';cases hx'
 unfold fieldsF at hp
 cases hc:t.ch with
 | some c =>
  rw [hc] at hp
  simp only at hp
  have e0:=T.ch
  rw [hc] at e0
  obtain ⟨ca,Fc,rfl,HC,kF⟩:=(e0:∃ c0 F,cv=.ptr c0 0 0∧ChanAt h1 c0 c F∧∀ j,j∈F→γ.K j=.chan n)
  by_cases hs:smallB c=true
  ·rw [if_pos hs] at hp
   simp only [foldL,Option.bind_eq_some_iff] at hp
   obtain ⟨u,hu,hp⟩:=hp
   have hu:=lim_lt hu
   simp -implicitDefEqProofs (disch:=first|exact dz _|fail) only [↓AM.R0,AM.R1,AM.R2,qA,qB,qC,qD,qE,↓reduceIte,qG,qH,qI,o1]
   refine AM.callI_of (chVals HC hs) ?_
   rintro rv h2 ⟨Fl,S2,f2'⟩
   have f2:=hfNon f2'
   have X2:=X1.tmp f2
   have l2:=S2.rd.len
   have n2:=f2.n
   have o2:=(f2.get h.n (by omega) (by simp)).trans o1
   have nF2:h.n ∉ F:=fun q=>by have:=X.V.ltn _ q;omega
   have dF:∀ j,j∈Fl→j ∉ F:=fun j hj q=>by
    have:=(f2'.new j hj).elim (fun z=>nomatch z) fun z=>z
    have:=X1.V.ltn j q
    omega
   have lF:=X2.V.ltn
   have rc:=S2.rd.cells
   simp -implicitDefEqProofs (disch:=first|exact dz _|fail) only [↓AM.R0,AM.R1,AM.R2,qA,qB,qC,qD,qE,↓reduceIte,qG,qH,qI,l2,rc.1,rc.2]
   refine AM.loopI_of (fun k e h3=>∃ (i:Nat) (st1:Seen) (F1:List Nat),k+i=c.vals.length∧e.val 2=putV a b∧e.val 4=.ptr h.n 0 0∧e.val 16=rv∧e.val 17=.int .i64 c.vals.length∧e.val 18=.int .i64 i∧Vis h0 h3 γ R a b st1 F1∧HFrame h2 h3 F F1∧foldO (fun w st=>putF (i64 (t.kind-64)) w st) (c.vals.drop i) st1=some st') c.vals.length ?_ ?_
   ·refine ⟨0,st,F,by omega,?_,?_,?_,?_,?_,X2,HFrame.refl lF,hp⟩<;>(simp -implicitDefEqProofs (disch:=first|exact dz _|fail) only [↓AM.R0,AM.R1,AM.R2,qA,qB,qC,qD,qE,↓reduceIte,qG,qH,qI])<;>rfl
   ·rintro k e h3 ⟨i,st1,F1,hki,y2,y4,y16,y17,y18,X3,f3,hp⟩
    have o3:=(f3.get h.n (by omega) nF2).trans o2
    have n3:=f3.n
    by_cases c1:(i:Int)<c.vals.length
    ·have d1:decide ((i:Int)<c.vals.length)=true:=decide_eq_true c1
     obtain ⟨w,hw⟩:∃ w,c.vals[i]?=some w:=⟨_,List.getElem?_eq_getElem (by omega)⟩
     obtain ⟨st2,hpf,hp⟩:=foldO_at hp hw
     have S3:=S2.frame n3 fun j hj=>f3.get j (S2.lt j hj) (dF j hj)
     obtain ⟨id1,g1,off1,vs1,ro1,t1,t2,t3,t4⟩:=SlRd.ix1 (enc:=fun n=>.int .u64 n) S3.rd hw .i64
     have wz:IntKind.i64.wrap ((i:Int)+1)=((i+1:Nat):Int):=(wrap64 (by omega) (by omega)).trans (by omega)
     simp -implicitDefEqProofs (disch:=first|exact dz _|fail) only [↓AM.R0,AM.R1,AM.R2,qA,qB,qC,qD,qE,↓reduceIte,qG,qH,qI,y2,y4,y16,y17,y18,d1,t1,t2,t4,o3,List.nil_append,List.cons_append]
     refine AM.callI_of (X3.call hpf) ?_
     rintro r h4 ⟨F4,X4,f4⟩
     simp -implicitDefEqProofs (disch:=first|exact dz _|fail) only [↓AM.R0,AM.R1,AM.R2,qA,qB,qC,qD,qE,↓reduceIte,qG,qH,qI,y2,y4,y16,y17,y18,wz]
     exact ⟨k-1,by omega,i+1,st2,F4,by omega,rfl,X4,f3.trans f4,hp⟩
    ·have d1:decide ((i:Int)<c.vals.length)=false:=decide_eq_false c1
     simp -implicitDefEqProofs (disch:=first|exact dz _|fail) only [↓AM.R0,AM.R1,AM.R2,qA,qB,qC,qD,qE,↓reduceIte,qG,qH,qI,y2,y4,y16,y17,y18,d1]
     have ei:c.vals.drop i=[]:=List.drop_of_length_le (by omega)
     rw [ei] at hp
     cases hp
     subst hQ
     exact ⟨F1,X3⟩
  ·rw [if_neg hs] at hp;cases hp
 | none =>
  rw [hc] at hp
  simp only [Option.bind_eq_some_iff] at hp
  obtain ⟨ty,e1,hp⟩:=hp
  have e0:=T.ch
  rw [hc] at e0
  have e0:cv=.nilp:=e0
  subst e0
  have P1:=X1.P
  have ho:=P1.obj
  have hlt:=P1.ltd
  obtain ⟨idp,gp,offp,vsp,rop,row,p1,p2,p3,p4,p5,p6,p7,tv,rfl,s1p⟩:=P1.prog.t.ix e1
  unfold i64 at p1
  have p8:(vsp.drop offp).take 2=[.bool ty.1,tv]:=p6
  have tc:=s1p.now.cells
  have tb:=s1p.now.beq
  have gb:=P1.prog.t.beq
  have p1':=ix_keep' (p1 .i64) (h':=h1.push (.cells 0 false [.bool false,.nils])) (AHeap.get_push_ne _ _ (by omega))
  simp -implicitDefEqProofs (disch:=first|exact dz _|fail) only [↓AM.R0,AM.R1,AM.R2,qA,qB,qC,qD,qE,↓reduceIte,qG,qH,qI,o1,ho,p1,p1',p2,p8,wl,tc.1,tc.2,tb,gb,AM.sameO_some]
  generalize hh2:((h1.push (.cells 0 false [.bool false,.nils])).set h1.n (.cells 0 false [.bool ty.1,tv]))=h2
  have o2:h2.get h1.n=.cells 0 false [.bool ty.1,tv]:=by rw [←hh2];exact AHeap.get_set_same _ _ _
  have n2:h2.n=h1.n+1:=by rw [←hh2];rfl
  have f2:HFrame h1 h2 [] []:=by rw [←hh2];(repeat (first | with_reducible apply HFrame.pushTmp | with_reducible refine HFrame.setTmp ?_ (by omega) _ | with_reducible exact HFrame.refl (by simp)))
  have X2:=X1.tmp f2
  clear hh2
  simp only [putL,Option.bind_eq_some_iff] at hp
  obtain ⟨u,hu,hp⟩:=hp
  have hu:=lim_lt hu
  have o1':=(f2.get h.n (by omega) (by simp)).trans o1
  have lF:=X2.V.ltn
  have nF1:h1.n ∉ F:=fun q=>by have:=X1.V.ltn _ q;omega
  refine AM.loopI_of (fun c e h3=>∃ (i:Nat) (st1:Seen) (F1:List Nat),c+i=t.words.length∧e.val 2=putV a b∧e.val 8=.ptr h1.n 0 0∧e.val 40=wv∧e.val 41=.int .i64 t.words.length∧e.val 42=.int .i64 i∧Vis h0 h3 γ R a b st1 F1∧HFrame h2 h3 F F1∧putIx ty.1 ty.2 i (t.words.drop i) st1=some st') t.words.length ?_ ?_
  ·refine ⟨0,st,F,by omega,?_,?_,?_,?_,?_,X2,HFrame.refl lF,hp⟩<;>(simp -implicitDefEqProofs (disch:=first|exact dz _|fail) only [↓AM.R0,AM.R1,AM.R2,qA,qB,qC,qD,qE,↓reduceIte,qG,qH,qI])<;>rfl
  ·rintro c e h3 ⟨i,st1,F1,hci,y2,y8,y40,y41,y42,X3,f3,hp⟩
   have nF3:h1.n ∉ F1:=f3.out nF1 (by omega)
   have o3:=(f3.get h1.n (by omega) nF1).trans o2
   have n3:=f3.n
   obtain ⟨x',hx',T3⟩:=X3.P.th1 ht
   rw [hx] at hx';cases hx'
   by_cases c1:(i:Int)<t.words.length
   ·have d1:decide ((i:Int)<t.words.length)=true:=decide_eq_true c1
    obtain ⟨w,hw⟩:∃ w,t.words[i]?=some w:=⟨_,List.getElem?_eq_getElem (by omega)⟩
    obtain ⟨k,st2,hk,hpf,hp⟩:=putIx_at hp hw
    obtain ⟨id1,g1,off1,vs1,ro1,t1,t2,t3,t4⟩:=SlRd.ix1 (enc:=fun n=>.int .u64 n) T3.words.rd hw .i64
    have wz:IntKind.i64.wrap ((i:Int)+1)=((i+1:Nat):Int):=(wrap64 (by omega) (by omega)).trans (by omega)
    have rd3:SlRd h3 1 encK tv ty.2:=s1p h3 (by omega) fun j hj e=>(f3.get j (by omega) fun q=>by rw [X2.no j q] at e;cases e).trans (f2.get j hj (by simp))
    cases hty:ty.1 with
    | true =>
     rw [hty] at hk o3
     simp only [if_true] at hk
     obtain ⟨id2,g2,off2,vs2,ro2,u1,u2,u3,u4⟩:=SlRd.ix1 (enc:=fun n=>.int .i64 n) rd3 hk .i64
     have u1:ixV h3 1 tv (.int .i64 0)=_:=u1
     simp -implicitDefEqProofs (disch:=first|exact dz _|fail) only [↓AM.R0,AM.R1,AM.R2,qA,qB,qC,qD,qE,↓reduceIte,qG,qH,qI,y2,y8,y40,y41,y42,d1,t1,t2,t4,o3,u1,u2,u4,List.nil_append,List.cons_append]
     refine AM.callI_of (X3.call hpf) ?_
     rintro r h4 ⟨F4,X4,f4⟩
     simp -implicitDefEqProofs (disch:=first|exact dz _|fail) only [↓AM.R0,AM.R1,AM.R2,qA,qB,qC,qD,qE,↓reduceIte,qG,qH,qI,y2,y8,y40,y41,y42,wz]
     exact ⟨c-1,by omega,i+1,st2,F4,by omega,rfl,X4,f3.trans f4,by rw [hty] at hp;exact hp⟩
    | false =>
     rw [hty] at hk o3
     simp only [Bool.false_eq_true,if_false] at hk
     obtain ⟨id2,g2,off2,vs2,ro2,u1,u2,u3,u4⟩:=SlRd.ix1 (enc:=fun n=>.int .i64 n) rd3 hk .i64
     simp -implicitDefEqProofs (disch:=first|exact dz _|fail) only [↓AM.R0,AM.R1,AM.R2,qA,qB,qC,qD,qE,↓reduceIte,qG,qH,qI,y2,y8,y40,y41,y42,d1,t1,t2,t4,o3,u1,u2,u4,List.nil_append,List.cons_append]
     refine AM.callI_of (X3.call hpf) ?_
     rintro r h4 ⟨F4,X4,f4⟩
     simp -implicitDefEqProofs (disch:=first|exact dz _|fail) only [↓AM.R0,AM.R1,AM.R2,qA,qB,qC,qD,qE,↓reduceIte,qG,qH,qI,y2,y8,y40,y41,y42,wz]
     exact ⟨c-1,by omega,i+1,st2,F4,by omega,rfl,X4,f3.trans f4,by rw [hty] at hp;exact hp⟩
   ·have d1:decide ((i:Int)<t.words.length)=false:=decide_eq_false c1
    simp -implicitDefEqProofs (disch:=first|exact dz _|fail) only [↓AM.R0,AM.R1,AM.R2,qA,qB,qC,qD,qE,↓reduceIte,qG,qH,qI,y2,y8,y40,y41,y42,d1]
    have ei:t.words.drop i=[]:=List.drop_of_length_le (by omega)
    rw [ei] at hp
    cases hp
    subst hQ
    exact ⟨F1,X3⟩
end
end Go.Proofs.Ytnbnpjhlflcjeaa.Id
namespace Go.Proofs.Ytnbnpjhlflcjeaa.Id
open Go Go.AM Go.Proofs.Ytnbnpjhlflcjeaa.AmGR
open Nat renaming reduceAdd → qA,reduceLeDiff → qB,reduceEqDiff → qC,reduceLT → qE
open Int renaming reduceToNat → qD,reduceEq → qG,reduceLT → qH,reduceLE → qI
def rootsL (p:PProg) (l:Late) (st:Seen):Option Seen:=(at? p.funcs l.fn).bind fun F=>putL false F.slots l.args st
def rootsF (p:PProg) (f:Frame) (st:Seen):Option Seen:=(at? p.funcs f.fn).bind fun F=>(putL false F.slots f.slots st).bind fun st=>(putL false F.results f.saved st).bind fun st=>foldL (rootsL p) f.lates st
def rootsR (p:PProg) (r:Routine) (st:Seen):Option Seen:=foldL (rootsF p) r.frames st
def rootsG (R:Run) (st:Seen):Option Seen:=(putL false R.p.globals R.globals st).bind fun st=>foldL (rootsR R.p) R.gs st
section
variable {h0 h h':AHeap} {γ:GI} {R:Run} {a b:Nat} {st st':Seen} {F F':List Nat}
theorem SlRd.ixAgain {α:Type} {h h':AHeap} {enc:α→AVal} {v:AVal} {l:List α} (s:SlRd h' 1 (fun a=>[enc a]) v l) {i:Nat} {a:α} (hi:l[i]?=some a) {k:IntKind} {id g off:Nat} (e:ixV h 1 v (.int k i)=some (.ptr id g off,h)) :
  ixV h' 1 v (.int k i)=some (.ptr id g off,h')∧∃ ro vs,h'.get id=.cells g ro vs∧id<h'.n∧vs[off]?=some (enc a):=by
 obtain ⟨id',g',off',vs,ro,rfl,e2,e3,e4,e5,e6⟩:=s.at (fun _=>rfl) hi
 have e7:=AM.ix_sl (k:=k) (n:=(i:Int)) (len:=l.length) (esz:=1) (off:=off') h' e2 (by omega) (by omega)
 have e8:id'=id∧g'=g∧off'+i*1=off:=by
  simp only [ixV] at e
  split at e
  ·simp only [Option.some.injEq,Prod.mk.injEq,AVal.ptr.injEq,and_true] at e
   have:=e
   simpa using e
  ·cases e
 obtain ⟨rfl,rfl,rfl⟩:=e8
 refine ⟨?_,ro,vs,e2,e3,one_of e5⟩
 rw [e7];simp
theorem wi1 {i n:Nat} (hi:i<n) (hn:n<1000000):IntKind.i64.wrap ((i:Int)+1)=((i+1:Nat):Int):=(wrap64 (by omega) (by omega)).trans (by omega)
set_option maxHeartbeats 4000000 in
theorem rootsS (X:Vis h0 h γ R a b st F) (hp:rootsG R st=some st'):CallP AP 51 [.ptr γ.d 0 0,putV a b] h fun r h'=>∃ F',Vis h0 h' γ R a b st' F':=by
 refine callP (rfl:Tr.get AP 51=some A51) ?_
 generalize hQ:(fun (r:AVal) (h':AHeap)=>_)=Q
 simp only [rootsG,putL,foldL,Option.bind_eq_some_iff] at hp
 obtain ⟨stg,⟨_,hlg,hpg⟩,_,hls,hps⟩:=hp
 have hlg:=lim_lt hlg
 have hls:=lim_lt hls
 have P:=X.P
 have ho:=P.obj
 have hlt:=P.ltd
 have gl:=P.globals.len
 simp -implicitDefEqProofs (disch:=first|exact dz _|fail) only [↓AM.R0,AM.R1,AM.R2,qA,qB,qC,qD,qE,↓reduceIte,qG,qH,qI,ho,gl]
 refine AM.loopI_of (fun k e h3=>∃ (i:Nat) (st1:Seen) (F1:List Nat),k+i=R.globals.length∧e.val 0=.ptr γ.d 0 0∧e.val 1=putV a b∧e.val 22=γ.glv∧e.val 23=.int .i64 R.globals.length∧e.val 24=.int .i64 i∧Vis h0 h3 γ R a b st1 F1∧putIx false R.p.globals i (R.globals.drop i) st1=some stg) R.globals.length ?_ ?_
 ·refine ⟨0,st,F,by omega,?_,?_,?_,?_,?_,X,hpg⟩<;>(simp -implicitDefEqProofs (disch:=first|exact dz _|fail) only [↓AM.R0,AM.R1,AM.R2,qA,qB,qC,qD,qE,↓reduceIte,qG,qH,qI])<;>rfl
 ·clear hpg ho hlt gl P X
  rintro k e h3 ⟨i,st1,F1,hki,y0,y1,y22,y23,y24,X,hp⟩
  have P:=X.P
  have ho:=P.obj
  have hlt:=P.ltd
  by_cases c1:(i:Int)<R.globals.length
  ·have d1:decide ((i:Int)<R.globals.length)=true:=decide_eq_true c1
   obtain ⟨w,hw⟩:∃ w,R.globals[i]?=some w:=⟨_,List.getElem?_eq_getElem (by omega)⟩
   obtain ⟨k',st2,hk,hpf,hp⟩:=putIx_at hp hw
   simp only [Bool.false_eq_true,if_false] at hk
   obtain ⟨id1,g1,off1,vs1,ro1,t1,t2,t3,t4⟩:=SlRd.ix1 (enc:=fun n=>.int .u64 n) P.globals.rd hw .i64
   obtain ⟨id2,g2,off2,vs2,ro2,u1,u2,u3,u4⟩:=SlRd.ix1 (enc:=fun n=>.int .i64 n) P.prog.g.now hk .i64
   have wz:=wi1 (i:=i) (by omega) hlg
   simp -implicitDefEqProofs (disch:=first|exact dz _|fail) only [↓AM.R0,AM.R1,AM.R2,qA,qB,qC,qD,qE,↓reduceIte,qG,qH,qI,y0,y1,y22,y23,y24,d1,t1,t2,t4,ho,u1,u2,u4,List.nil_append,List.cons_append]
   refine AM.callI_of (X.call hpf) ?_
   rintro r h4 ⟨F4,X4,f4⟩
   simp -implicitDefEqProofs (disch:=first|exact dz _|fail) only [↓AM.R0,AM.R1,AM.R2,qA,qB,qC,qD,qE,↓reduceIte,qG,qH,qI,y0,y1,y22,y23,y24,wz]
   exact ⟨k-1,by omega,i+1,st2,F4,by omega,rfl,X4,hp⟩
  ·have d1:decide ((i:Int)<R.globals.length)=false:=decide_eq_false c1
   have ei:R.globals.drop i=[]:=List.drop_of_length_le (by omega)
   rw [ei] at hp
   cases hp
   have gl:=P.gs.len
   have lg:=P.gsAll.1
   rw [List.length_map] at gl
   simp -implicitDefEqProofs (disch:=first|exact dz _|fail) only [↓AM.R0,AM.R1,AM.R2,qA,qB,qC,qD,qE,↓reduceIte,qG,qH,qI,y0,y1,y22,y23,y24,d1,ho,gl]
   clear y22 y23 y24 d1 c1 ei hki
   refine AM.loopI_of (fun k e h5=>∃ (i:Nat) (st1:Seen) (F1:List Nat),k+i=R.gs.length∧e.val 0=.ptr γ.d 0 0∧e.val 1=putV a b∧e.val 44=γ.gsv∧e.val 45=.int .i64 R.gs.length∧e.val 46=.int .i64 i∧Vis h0 h5 γ R a b st1 F1∧foldO (rootsR R.p) (R.gs.drop i) st1=some st') R.gs.length ?_ ?_
   ·refine ⟨0,_,F1,by omega,?_,?_,?_,?_,?_,X,hps⟩<;>(simp -implicitDefEqProofs (disch:=first|exact dz _|fail) only [↓AM.R0,AM.R1,AM.R2,qA,qB,qC,qD,qE,↓reduceIte,qG,qH,qI,y0,y1,lg])<;>rfl
   ·clear hps ho hlt gl P X y0 y1
    rintro k e h5 ⟨i,st1,F1,hki,y0,y1,y44,y45,y46,X,hp⟩
    have P:=X.P
    have ho:=P.obj
    have hlt:=P.ltd
    by_cases c1:(i:Int)<R.gs.length
    ·have d1:decide ((i:Int)<R.gs.length)=true:=decide_eq_true c1
     obtain ⟨r,hr⟩:∃ r,R.gs[i]?=some r:=⟨_,List.getElem?_eq_getElem (by omega)⟩
     obtain ⟨st2,hpr,hp⟩:=foldO_at hp hr
     obtain ⟨x,fv,hx,S⟩:=P.rt hr
     have hgx:(γ.gs.map (·.1))[i]?=some x.1:=by rw [List.getElem?_map,hx];rfl
     obtain ⟨id1,g1,off1,vs1,ro1,t1,t2,t3,t4⟩:=SlRd.ix1 (enc:=fun id=>.ptr id 0 0) P.gs.rd hgx .i64
     have wz:=wi1 (i:=i) (by omega) hls
     have hro:=S.obj
     have hrlt:=S.lt
     have fl:=S.frs.len
     have lf:=S.all.1
     simp only [rootsR,foldL,Option.bind_eq_some_iff] at hpr
     obtain ⟨_,hlf,hpr⟩:=hpr
     have hlf:=lim_lt hlf
     simp -implicitDefEqProofs (disch:=first|exact dz _|fail) only [↓AM.R0,AM.R1,AM.R2,qA,qB,qC,qD,qE,↓reduceIte,qG,qH,qI,y0,y1,y44,y45,y46,d1,t1,t2,t4,hro,fl]
     have F1':=F1
     refine AM.loopI_of (fun k2 e h6=>∃ (j:Nat) (st3:Seen) (F3:List Nat),k2+j=r.frames.length∧e.val 0=.ptr γ.d 0 0∧e.val 1=putV a b∧e.val 44=γ.gsv∧e.val 45=.int .i64 R.gs.length∧e.val 46=.int .i64 i∧e.val 53=fv∧e.val 54=.int .i64 r.frames.length∧e.val 55=.int .i64 j∧Vis h0 h6 γ R a b st3 F3∧HFrame h5 h6 F1 F3∧foldO (rootsF R.p) (r.frames.drop j) st3=some st2) r.frames.length ?_ ?_
     ·refine ⟨0,_,F1,by omega,?_,?_,?_,?_,?_,?_,?_,?_,X,HFrame.refl X.V.ltn,hpr⟩<;>(simp -implicitDefEqProofs (disch:=first|exact dz _|fail) only [↓AM.R0,AM.R1,AM.R2,qA,qB,qC,qD,qE,↓reduceIte,qG,qH,qI,y0,y1,y44,y45,y46,lf])<;>rfl
     ·clear hpr ho hlt t1 t2 t4 hro fl y0 y1 y44 y45 y46
      rintro k2 e h6 ⟨j,st3,F3,hkj,y0,y1,y44,y45,y46,y53,y54,y55,X6,f6,hpr⟩
      have P6:=X6.P
      have ho:=P6.obj
      have hlt:=P6.ltd
      obtain ⟨x',fv',hx',S6⟩:=P6.rt hr
      rw [hx] at hx';cases hx'
      have nx:x.1 ∉ F1:=fun q=>by have:=X.no _ q;rw [S.kid] at this;cases this
      obtain rfl:fv=fv':=by
       have e1:=S6.obj
       rw [f6.get _ S.lt nx,S.obj] at e1
       cases e1;rfl
      by_cases c2:(j:Int)<r.frames.length
      ·have d2:decide ((j:Int)<r.frames.length)=true:=decide_eq_true c2
       obtain ⟨f,hf⟩:∃ f,r.frames[j]?=some f:=⟨_,List.getElem?_eq_getElem (by omega)⟩
       obtain ⟨st4,hpf,hpr⟩:=foldO_at hpr hf
       obtain ⟨fi,hfi,sv,iv,lv,vv,la,q6⟩:=S6.fr hf
       obtain ⟨id1,g1,off1,vs1,ro1,t1,t2,t3,t4⟩:=SlRd.ix1 (enc:=fun id=>.ptr id 0 0) S6.frs.rd hfi .i64
       have wz2:=wi1 (i:=j) (by omega) hlf
       have hq:=q6.obj
       have hqlt:=q6.lt
       simp only [rootsF,Option.bind_eq_some_iff,putL,foldL] at hpf
       obtain ⟨Fn,hFn,stA,⟨_,hlA,hpA⟩,stB,⟨_,hlB,hpB⟩,_,hlC,hpC⟩:=hpf
       have hlA:=lim_lt hlA
       have hlB:=lim_lt hlB
       have hlC:=lim_lt hlC
       obtain ⟨idp,gp,offp,vsp,rop,row,p1,p2,p3,p4,p5,p6,p7,ksv,krv,kcv,rfl,k1,k2',k3⟩:=P6.prog.f.ix hFn
       have gb:=P6.prog.f.beq
       have p1':=ix_keep' (p1 .i64) (h':=h6.push (.cells 0 false [.int .i64 0,.nils,.nils,.nils])) (AHeap.get_push_ne _ _ (by omega))
       have c1k:=k1.now.cells
       have c2k:=k2'.now.cells
       have c3k:=k3.cell
       have b1k:=k1.now.beq
       have b2k:=k2'.now.beq
       have b3k:=k3.beq
       simp -implicitDefEqProofs (disch:=first|exact dz _|fail) only [↓AM.R0,AM.R1,AM.R2,qA,qB,qC,qD,qE,↓reduceIte,qG,qH,qI,y0,y1,y44,y45,y46,y53,y54,y55,d2,t1,t2,t4,ho,hq,p1,p1',p2,p6,gb,c1k.1,c1k.2,c2k.1,c2k.2,c3k,cells1 c3k,b1k,b2k,b3k,AM.sameO_some]
       generalize hh7:((h6.push (.cells 0 false [.int .i64 0,.nils,.nils,.nils])).set h6.n (.cells 0 false [.int .i64 Fn.params,ksv,krv,kcv]))=h7
       have o7:h7.get h6.n=.cells 0 false [.int .i64 Fn.params,ksv,krv,kcv]:=by rw [←hh7];exact AHeap.get_set_same _ _ _
       have n7:h7.n=h6.n+1:=by rw [←hh7];rfl
       have f67:HFrame h6 h7 [] []:=by rw [←hh7];(repeat (first | with_reducible apply HFrame.pushTmp | with_reducible refine HFrame.setTmp ?_ (by omega) _ | with_reducible exact HFrame.refl (by simp)))
       clear hh7
       have X7:=X6.tmp f67
       have g67:HFrame h6 h7 F3 F3:=f67.wide (by simp) (fun j hj=>.inr hj) X6.V.ltn
       have tF:h6.n ∉ F3:=fun q=>by have:=X6.V.ltn _ q;omega
       have chg:∀ {h8:AHeap} {F5:List Nat},HFrame h7 h8 F3 F5→Chg (·=.no) h6 h8 γ.K γ.K:=fun f=>Chg.of (g67.trans f) fun j hj _=>X6.no j hj
       have qq:∀ {h8:AHeap} {F5:List Nat},HFrame h7 h8 F3 F5→FrV h8 γ.K i j fi f sv iv lv vv la:=fun f=>q6.keep (chg f) Tag.noConfusion Tag.noConfusion Tag.noConfusion Tag.noConfusion
       have oo:∀ {h8:AHeap} {F5:List Nat},HFrame h7 h8 F3 F5→h8.get h6.n=.cells 0 false [.int .i64 Fn.params,ksv,krv,kcv]:=fun f=>(f.get h6.n (by omega) tF).trans o7
       have ol:∀ {h8:AHeap} {F5:List Nat},HFrame h7 h8 F3 F5→h6.n<h8.n:=fun f=>by have:=f.n;omega
       have kk1:∀ {h8:AHeap} {F5:List Nat},HFrame h7 h8 F3 F5→SlRd h8 1 encK ksv Fn.slots:=fun f=>(k1.keep (chg f) Tag.noConfusion).now
       have kk2:∀ {h8:AHeap} {F5:List Nat},HFrame h7 h8 F3 F5→SlRd h8 1 encK krv Fn.results:=fun f=>(k2'.keep (chg f) Tag.noConfusion).now
       have r7:HFrame h7 h7 F3 F3:=HFrame.refl X7.V.ltn
       have lnC:=(qq r7).slots.len
       have hq:=(qq r7).obj
       have hqlt:=(qq r7).lt
       simp -implicitDefEqProofs (disch:=first|exact dz _|fail) only [↓AM.R0,AM.R1,AM.R2,qA,qB,qC,qD,qE,↓reduceIte,qG,qH,qI,y0,y1,y44,y45,y46,y53,y54,y55,hq,lnC]
       refine AM.loopI_of (fun k3 e h8=>∃ (z:Nat) (st5:Seen) (F5:List Nat),k3+z=f.slots.length∧e.val 0=.ptr γ.d 0 0∧e.val 1=putV a b∧e.val 44=γ.gsv∧e.val 45=.int .i64 R.gs.length∧e.val 46=.int .i64 i∧e.val 53=fv∧e.val 54=.int .i64 r.frames.length∧e.val 55=.int .i64 j∧e.val 9=.ptr fi 0 0∧e.val 10=.ptr h6.n 0 0∧e.val 73=sv∧e.val 74=.int .i64 f.slots.length∧e.val 75=.int .i64 z∧Vis h0 h8 γ R a b st5 F5∧HFrame h7 h8 F3 F5∧putIx false Fn.slots z (f.slots.drop z) st5=some stA) f.slots.length ?_ ?_
       ·refine ⟨0,_,_,by omega,?_,?_,?_,?_,?_,?_,?_,?_,?_,?_,?_,?_,?_,X7,r7,hpA⟩<;>(simp -implicitDefEqProofs (disch:=first|exact dz _|fail) only [↓AM.R0,AM.R1,AM.R2,qA,qB,qC,qD,qE,↓reduceIte,qG,qH,qI,y0,y1,y44,y45,y46,y53,y54,y55])<;>rfl
       ·clear hpA y0 y1 y44 y45 y46 y53 y54 y55
        rintro k3 e h8 ⟨z,st5,F5,hkz,y0,y1,y44,y45,y46,y53,y54,y55,y9,y10,y73,y74,y75,X8,f8,hz⟩
        have q8:=qq f8
        have o8:=oo f8
        have l8:=ol f8
        by_cases c3:(z:Int)<f.slots.length
        ·have d3:decide ((z:Int)<f.slots.length)=true:=decide_eq_true c3
         obtain ⟨w,hw⟩:∃ w,f.slots[z]?=some w:=⟨_,List.getElem?_eq_getElem (by omega)⟩
         obtain ⟨k',st6,hk,hpf,hz⟩:=putIx_at hz hw
         simp only [Bool.false_eq_true,if_false] at hk
         obtain ⟨id1,g1,off1,vs1,ro1,t1,t2,t3,t4⟩:=SlRd.ix1 (enc:=fun n=>.int .u64 n) q8.slots.rd hw .i64
         obtain ⟨id2,g2,off2,vs2,ro2,u1,u2,u3,u4⟩:=SlRd.ix1 (enc:=fun n=>.int .i64 n) (kk1 f8) hk .i64
         have wz3:=wi1 (i:=z) (by omega) hlA
         simp -implicitDefEqProofs (disch:=first|exact dz _|fail) only [↓AM.R0,AM.R1,AM.R2,qA,qB,qC,qD,qE,↓reduceIte,qG,qH,qI,y0,y1,y44,y45,y46,y53,y54,y55,y9,y10,y73,y74,y75,d3,t1,t2,t4,o8,u1,u2,u4,List.nil_append,List.cons_append]
         refine AM.callI_of (X8.call hpf) ?_
         rintro r8 h9 ⟨F9,X9,f9⟩
         simp -implicitDefEqProofs (disch:=first|exact dz _|fail) only [↓AM.R0,AM.R1,AM.R2,qA,qB,qC,qD,qE,↓reduceIte,qG,qH,qI,y0,y1,y44,y45,y46,y53,y54,y55,y9,y10,y73,y74,y75,wz3]
         exact ⟨k3-1,by omega,z+1,st6,F9,by omega,rfl,X9,f8.trans f9,hz⟩
        ·have d3:decide ((z:Int)<f.slots.length)=false:=decide_eq_false c3
         have ei:f.slots.drop z=[]:=List.drop_of_length_le (by omega)
         rw [ei] at hz
         cases hz
         have lnD:=q8.saved.now.len
         have hq:=q8.obj
         have hqlt:=q8.lt
         simp -implicitDefEqProofs (disch:=first|exact dz _|fail) only [↓AM.R0,AM.R1,AM.R2,qA,qB,qC,qD,qE,↓reduceIte,qG,qH,qI,y0,y1,y44,y45,y46,y53,y54,y55,y9,y10,y73,y74,y75,d3,hq,lnD]
         refine AM.loopI_of (fun k3 e h8=>∃ (z:Nat) (st5:Seen) (F5:List Nat),k3+z=f.saved.length∧e.val 0=.ptr γ.d 0 0∧e.val 1=putV a b∧e.val 44=γ.gsv∧e.val 45=.int .i64 R.gs.length∧e.val 46=.int .i64 i∧e.val 53=fv∧e.val 54=.int .i64 r.frames.length∧e.val 55=.int .i64 j∧e.val 9=.ptr fi 0 0∧e.val 10=.ptr h6.n 0 0∧e.val 92=vv∧e.val 93=.int .i64 f.saved.length∧e.val 94=.int .i64 z∧Vis h0 h8 γ R a b st5 F5∧HFrame h7 h8 F3 F5∧putIx false Fn.results z (f.saved.drop z) st5=some stB) f.saved.length ?_ ?_
         ·refine ⟨0,_,_,by omega,?_,?_,?_,?_,?_,?_,?_,?_,?_,?_,?_,?_,?_,X8,f8,hpB⟩<;>(simp -implicitDefEqProofs (disch:=first|exact dz _|fail) only [↓AM.R0,AM.R1,AM.R2,qA,qB,qC,qD,qE,↓reduceIte,qG,qH,qI,y0,y1,y44,y45,y46,y53,y54,y55,y9,y10])<;>rfl
         ·clear hpB y0 y1 y44 y45 y46 y53 y54 y55 y9 y10 y73 y74 y75
          rintro k3 e h8 ⟨z,st5,F5,hkz,y0,y1,y44,y45,y46,y53,y54,y55,y9,y10,y92,y93,y94,X8,f8,hz⟩
          have q8:=qq f8
          have o8:=oo f8
          have l8:=ol f8
          by_cases c3:(z:Int)<f.saved.length
          ·have d3:decide ((z:Int)<f.saved.length)=true:=decide_eq_true c3
           obtain ⟨w,hw⟩:∃ w,f.saved[z]?=some w:=⟨_,List.getElem?_eq_getElem (by omega)⟩
           obtain ⟨k',st6,hk,hpf,hz⟩:=putIx_at hz hw
           simp only [Bool.false_eq_true,if_false] at hk
           obtain ⟨id1,g1,off1,vs1,ro1,t1,t2,t3,t4⟩:=SlRd.ix1 (enc:=fun n=>.int .u64 n) q8.saved.now hw .i64
           obtain ⟨id2,g2,off2,vs2,ro2,u1,u2,u3,u4⟩:=SlRd.ix1 (enc:=fun n=>.int .i64 n) (kk2 f8) hk .i64
           have wz3:=wi1 (i:=z) (by omega) hlB
           simp -implicitDefEqProofs (disch:=first|exact dz _|fail) only [↓AM.R0,AM.R1,AM.R2,qA,qB,qC,qD,qE,↓reduceIte,qG,qH,qI,y0,y1,y44,y45,y46,y53,y54,y55,y9,y10,y92,y93,y94,d3,t1,t2,t4,o8,u1,u2,u4,List.nil_append,List.cons_append]
           refine AM.callI_of (X8.call hpf) ?_
           rintro r8 h9 ⟨F9,X9,f9⟩
           simp -implicitDefEqProofs (disch:=first|exact dz _|fail) only [↓AM.R0,AM.R1,AM.R2,qA,qB,qC,qD,qE,↓reduceIte,qG,qH,qI,y0,y1,y44,y45,y46,y53,y54,y55,y9,y10,y92,y93,y94,wz3]
           exact ⟨k3-1,by omega,z+1,st6,F9,by omega,rfl,X9,f8.trans f9,hz⟩
          ·have d3:decide ((z:Int)<f.saved.length)=false:=decide_eq_false c3
           have ei:f.saved.drop z=[]:=List.drop_of_length_le (by omega)
           rw [ei] at hz
           cases hz
           have lnE:=q8.lates.len
           have llE:=q8.args.1
           have hq:=q8.obj
           have hqlt:=q8.lt
           simp -implicitDefEqProofs (disch:=first|exact dz _|fail) only [↓AM.R0,AM.R1,AM.R2,qA,qB,qC,qD,qE,↓reduceIte,qG,qH,qI,y0,y1,y44,y45,y46,y53,y54,y55,y9,y10,y92,y93,y94,d3,hq,lnE]
           refine AM.loopI_of (fun k3 e h8=>∃ (z:Nat) (st5:Seen) (F5:List Nat),k3+z=f.lates.length∧e.val 0=.ptr γ.d 0 0∧e.val 1=putV a b∧e.val 44=γ.gsv∧e.val 45=.int .i64 R.gs.length∧e.val 46=.int .i64 i∧e.val 53=fv∧e.val 54=.int .i64 r.frames.length∧e.val 55=.int .i64 j∧e.val 9=.ptr fi 0 0∧e.val 10=.ptr h6.n 0 0∧e.val 111=lv∧e.val 112=.int .i64 f.lates.length∧e.val 113=.int .i64 z∧Vis h0 h8 γ R a b st5 F5∧HFrame h7 h8 F3 F5∧foldO (rootsL R.p) (f.lates.drop z) st5=some st4) f.lates.length ?_ ?_
           ·refine ⟨0,_,_,by omega,?_,?_,?_,?_,?_,?_,?_,?_,?_,?_,?_,?_,?_,X8,f8,hpC⟩<;>(simp -implicitDefEqProofs (disch:=first|exact dz _|fail) only [↓AM.R0,AM.R1,AM.R2,qA,qB,qC,qD,qE,↓reduceIte,qG,qH,qI,y0,y1,y44,y45,y46,y53,y54,y55,y9,y10,llE])<;>rfl
           ·clear hpC y0 y1 y44 y45 y46 y53 y54 y55 y9 y10 y92 y93 y94 d3 lnE llE hq hqlt
            rintro k3 e h8 ⟨z,st5,F5,hkz,y0,y1,y44,y45,y46,y53,y54,y55,y9,y10,y111,y112,y113,X8,f8,hz⟩
            have q8:=qq f8
            by_cases c3:(z:Int)<f.lates.length
            ·have d3:decide ((z:Int)<f.lates.length)=true:=decide_eq_true c3
             obtain ⟨l,hl⟩:∃ l,f.lates[z]?=some l:=⟨_,List.getElem?_eq_getElem (by omega)⟩
             obtain ⟨st6,hpl,hz⟩:=foldO_at hz hl
             obtain ⟨⟨lfn,av⟩,hla,hlf,rav⟩:=q8.args.right hl
             simp only at hlf rav
             subst hlf
             obtain ⟨id1,g1,off1,vs1,ro1,t1,t2,t3,t4,t5⟩:=q8.lates.rd.ix (fun _=>rfl) hla .i64
             have t5:(vs1.drop off1).take 2=[.int .i64 l.fn,av]:=t5
             have wz3:=wi1 (i:=z) (by omega) hlC
             have ac:=rav.now.cells
             simp only [rootsL,Option.bind_eq_some_iff,putL] at hpl
             obtain ⟨Fl,hFl,_,hlL,hpl⟩:=hpl
             have hlL:=lim_lt hlL
             have lav:=rav.now.len
             simp -implicitDefEqProofs (disch:=first|exact dz _|fail) only [↓AM.R0,AM.R1,AM.R2,qA,qB,qC,qD,qE,↓reduceIte,qG,qH,qI,y0,y1,y44,y45,y46,y53,y54,y55,y9,y10,y111,y112,y113,d3,t1,t2,t5,ac.1,ac.2,lav]
             generalize hh9:((h8.push (.cells 0 false [.int .i64 0,.nils])).set h8.n (.cells 0 false [.int .i64 l.fn,av]))=h9
             have o9:h9.get h8.n=.cells 0 false [.int .i64 l.fn,av]:=by rw [←hh9];exact AHeap.get_set_same _ _ _
             have n9:h9.n=h8.n+1:=by rw [←hh9];rfl
             have f89:HFrame h8 h9 [] []:=by rw [←hh9];(repeat (first | with_reducible apply HFrame.pushTmp | with_reducible refine HFrame.setTmp ?_ (by omega) _ | with_reducible exact HFrame.refl (by simp)))
             clear hh9
             have X9:=X8.tmp f89
             have g89:HFrame h8 h9 F5 F5:=f89.wide (by simp) (fun j hj=>.inr hj) X8.V.ltn
             have tF9:h8.n ∉ F5:=fun q=>by have:=X8.V.ltn _ q;omega
             refine AM.loopI_of (fun k4 e h10=>∃ (m:Nat) (st7:Seen) (F7:List Nat),k4+m=l.args.length∧e.val 0=.ptr γ.d 0 0∧e.val 1=putV a b∧e.val 44=γ.gsv∧e.val 45=.int .i64 R.gs.length∧e.val 46=.int .i64 i∧e.val 53=fv∧e.val 54=.int .i64 r.frames.length∧e.val 55=.int .i64 j∧e.val 9=.ptr fi 0 0∧e.val 10=.ptr h6.n 0 0∧e.val 111=lv∧e.val 112=.int .i64 f.lates.length∧e.val 113=.int .i64 z∧e.val 16=.ptr h8.n 0 0∧e.val 118=av∧e.val 119=.int .i64 l.args.length∧e.val 120=.int .i64 m∧Vis h0 h10 γ R a b st7 F7∧HFrame h9 h10 F5 F7∧putIx false Fl.slots m (l.args.drop m) st7=some st6) l.args.length ?_ ?_
             ·refine ⟨0,_,_,by omega,?_,?_,?_,?_,?_,?_,?_,?_,?_,?_,?_,?_,?_,?_,?_,?_,?_,X9,HFrame.refl X9.V.ltn,hpl⟩<;>(simp -implicitDefEqProofs (disch:=first|exact dz _|fail) only [↓AM.R0,AM.R1,AM.R2,qA,qB,qC,qD,qE,↓reduceIte,qG,qH,qI,y0,y1,y44,y45,y46,y53,y54,y55,y9,y10,y111,y112,y113])<;>rfl
             ·clear hpl y0 y1 y44 y45 y46 y53 y54 y55 y9 y10 y111 y112 y113 d3 t1 t2 t5
              rintro k4 e h10 ⟨m,st7,F7,hkm,y0,y1,y44,y45,y46,y53,y54,y55,y9,y10,y111,y112,y113,y16,y118,y119,y120,X10,f10,hm⟩
              have o10:=(f10.get h8.n (by omega) tF9).trans o9
              have n10:=f10.n
              have P10:=X10.P
              have ho:=P10.obj
              have hlt:=P10.ltd
              by_cases c4:(m:Int)<l.args.length
              ·have d4:decide ((m:Int)<l.args.length)=true:=decide_eq_true c4
               obtain ⟨w,hw⟩:∃ w,l.args[m]?=some w:=⟨_,List.getElem?_eq_getElem (by omega)⟩
               obtain ⟨k',st8,hk,hpf,hm⟩:=putIx_at hm hw
               simp only [Bool.false_eq_true,if_false] at hk
               have ra10:SlRd h10 1 encP av l.args:=(rav.keep (Chg.of (T:=(·=.no)) (g89.trans f10) fun j hj _=>X8.no j hj) Tag.noConfusion).now
               obtain ⟨id1,g1,off1,vs1,ro1,t1,t2,t3,t4⟩:=SlRd.ix1 (enc:=fun n=>.int .u64 n) ra10 hw .i64
               obtain ⟨idp,gp,offp,vsp,rop,row,p1,p2,p3,p4,p5,p6,p7,ksl,krl,kcl,rfl,k1,k2,k3'⟩:=P10.prog.f.ix hFl
               have p8:vsp[offp+1]?=some ksl:=row_at p6 (by omega)
               obtain ⟨id2,g2,off2,vs2,ro2,u1,u2,u3,u4⟩:=SlRd.ix1 (enc:=fun n=>.int .i64 n) k1.now hk .i64
               have wz4:=wi1 (i:=m) (by omega) hlL
               simp -implicitDefEqProofs (disch:=first|exact dz _|fail) only [↓AM.R0,AM.R1,AM.R2,qA,qB,qC,qD,qE,↓reduceIte,qG,qH,qI,y0,y1,y44,y45,y46,y53,y54,y55,y9,y10,y111,y112,y113,y16,y118,y119,y120,d4,t1,t2,t4,ho,o10,p1,p2,p8,u1,u2,u4,List.nil_append,List.cons_append]
               refine AM.trCall_of (X10.call hpf) ?_
               rintro r11 h11 ⟨F11,X11,f11⟩
               have P11:=X11.P
               have ho':=P11.obj
               have hlt':=P11.ltd
               have o11:=(f11.get h8.n (by omega) (f10.out tF9 (by omega))).trans o10
               have n11:=f11.n
               have c11:Chg (·=.no) h10 h11 γ.K γ.K:=Chg.of f11 fun j hj _=>X10.no j hj
               have gp11:=(c11.keep p3 p4 Tag.noConfusion)
               have p1':=ix_keep' (p1 .i64) gp11
               have p2':=gp11.trans p2
               have lp':idp<h11.n:=by omega
               obtain ⟨u1',ro2',vs2',u2',u3',u4'⟩:=SlRd.ixAgain (enc:=fun n=>.int .i64 n) (k1.keep c11 Tag.noConfusion).now hk u1
               have gb:=P11.prog.f.beq
               have kb:=k1.now.beq
               simp -implicitDefEqProofs (disch:=first|exact dz _|fail) only [↓AM.R0,AM.R1,AM.R2,qA,qB,qC,qD,qE,↓reduceIte,qG,qH,qI,y0,y1,y44,y45,y46,y53,y54,y55,y9,y10,y111,y112,y113,y16,y118,y119,y120,d4,ho',o11,p1',p2',p8,u1',u2',u4',gb,kb,AM.sameO_some,wz4]
               exact ⟨k4-1,by omega,m+1,st8,F11,by omega,rfl,X11,f10.trans f11,hm⟩
              ·have d4:decide ((m:Int)<l.args.length)=false:=decide_eq_false c4
               have ei:l.args.drop m=[]:=List.drop_of_length_le (by omega)
               rw [ei] at hm
               cases hm
               simp -implicitDefEqProofs (disch:=first|exact dz _|fail) only [↓AM.R0,AM.R1,AM.R2,qA,qB,qC,qD,qE,↓reduceIte,qG,qH,qI,y0,y1,y44,y45,y46,y53,y54,y55,y9,y10,y111,y112,y113,y16,y118,y119,y120,d4,wz3]
               exact ⟨k3-1,by omega,z+1,_,F7,by omega,rfl,X10,(f8.trans g89).trans f10,hz⟩
            ·have d3:decide ((z:Int)<f.lates.length)=false:=decide_eq_false c3
             have ei:f.lates.drop z=[]:=List.drop_of_length_le (by omega)
             rw [ei] at hz
             cases hz
             simp -implicitDefEqProofs (disch:=first|exact dz _|fail) only [↓AM.R0,AM.R1,AM.R2,qA,qB,qC,qD,qE,↓reduceIte,qG,qH,qI,y0,y1,y44,y45,y46,y53,y54,y55,y9,y10,y111,y112,y113,d3,wz2]
             exact ⟨k2-1,by omega,j+1,_,F5,by omega,rfl,X8,(f6.trans g67).trans f8,hpr⟩
      ·have d2:decide ((j:Int)<r.frames.length)=false:=decide_eq_false c2
       have ei:r.frames.drop j=[]:=List.drop_of_length_le (by omega)
       rw [ei] at hpr
       cases hpr
       simp -implicitDefEqProofs (disch:=first|exact dz _|fail) only [↓AM.R0,AM.R1,AM.R2,qA,qB,qC,qD,qE,↓reduceIte,qG,qH,qI,y0,y1,y44,y45,y46,y53,y54,y55,d2,wz]
       exact ⟨k-1,by omega,i+1,_,F3,by omega,rfl,X6,hp⟩
    ·have d1:decide ((i:Int)<R.gs.length)=false:=decide_eq_false c1
     have ei:R.gs.drop i=[]:=List.drop_of_length_le (by omega)
     rw [ei] at hp
     cases hp
     simp -implicitDefEqProofs (disch:=first|exact dz _|fail) only [↓AM.R0,AM.R1,AM.R2,qA,qB,qC,qD,qE,↓reduceIte,qG,qH,qI,y0,y1,y44,y45,y46,d1]
     subst hQ
     exact ⟨F1,X⟩
end
end Go.Proofs.Ytnbnpjhlflcjeaa.Id
namespace Go.Proofs.Ytnbnpjhlflcjeaa.Id
open Go Go.AM Go.Proofs.Ytnbnpjhlflcjeaa.AmGR
open Nat renaming reduceAdd → qA,reduceLeDiff → qB,reduceEqDiff → qC,reduceLT → qE
open Int renaming reduceToNat → qD,reduceEq → qG,reduceLT → qH,reduceLE → qI
def reachN:Nat→Run→Seen→Int→Int→Option (Int×Int)
 | 0,d,st,c,w=>if st.2.length=0 then some (c,w) else none
 | n+1,d,st,c,w=>if st.2.length=0 then some (c,w) else (lim st.2 1000000).bind fun _=>st.2.getLast?.bind fun x=>(at? d.things x).bind fun t=>(sizeF d.p t).bind fun z=>(fieldsF d.p t (st.1,st.2.take (st.2.length-1))).bind fun st'=>reachN n d st' (i64 (c+1)) (u64 (w+z))
def Run.reach (n:Nat) (d:Run):Option (Int×Int):=(lim d.things 1000000).bind fun _=>(rootsG d (List.replicate d.things.length false,[])).bind fun st=>reachN n d st 0 0
theorem ms_bool (h:AHeap) (n:Nat) (hb:n<1000000):msV h 1 1 [.bool false] (.int .i64 (n:Int))=some (.sl h.n 0 0 n 1,h.push (.cells 0 false (List.replicate n (.bool false)))):=by
 have e:(List.range (n*1)).map (fun i=>[AVal.bool false].getD (i%1) .undef)=List.replicate n (.bool false):=by
  rw [Nat.mul_one,List.eq_replicate_iff]
  refine ⟨by simp,fun b hb=>?_⟩
  obtain ⟨i,_,rfl⟩:=List.mem_map.1 hb
  simp [Nat.mod_one]
 simp only [msV,e,Int.toNat_natCast]
 rw [if_pos ⟨Int.natCast_nonneg _,by omega,by omega⟩]
theorem flat_rep (n:Nat):List.replicate n (AVal.bool false)=(List.replicate n false).flatMap encS:=by
 induction n with
 | zero=>rfl
 | succ n ih=>rw [List.replicate_succ,List.replicate_succ,List.flatMap_cons,ih];rfl
section
variable {h0 h h':AHeap} {γ:GI} {R:Run} {a b:Nat} {st st':Seen} {F F':List Nat}
set_option maxHeartbeats 4000000 in
theorem reachG (P:RunP h γ R) {n:Nat} {c w:Int} (hp:R.reach n=some (c,w)):CallP AP 33 [.ptr γ.d 0 0] h fun v h'=>v=.tup [.int .i64 c,.int .u64 w]∧HFrame h h' [] []:=by
 refine callP (rfl:Tr.get AP 33=some A33) ?_
 generalize hQ:(fun (r:AVal) (h':AHeap)=>_)=Q
 simp only [Run.reach,Option.bind_eq_some_iff] at hp
 obtain ⟨_,hlt,str,hpr,hpn⟩:=hp
 have hlt:=lim_lt hlt
 have ho:=P.obj
 have hdl:=P.ltd
 have tl:=P.things.len
 have lt':=P.thAll.1
 rw [lt'] at tl
 have ms:=fun h=>ms_bool h R.things.length hlt
 simp -implicitDefEqProofs (disch:=first|exact dz _|fail) only [↓AM.R0,AM.R1,AM.R2,qA,qB,qC,qD,qE,↓reduceIte,qG,qH,qI,ho,tl,ms]
 generalize hh1:(AHeap.push (AHeap.set (AHeap.push (AHeap.push h _) _) _ _) _)=h1
 have n1:h1.n=h.n+3:=by rw [←hh1];rfl
 have o1:h1.get (h.n+1)=.cells 0 false [.sl h.n 0 0 R.things.length 1]:=by rw [←hh1];simp -implicitDefEqProofs (disch:=first|exact dz _|fail) only [↓AM.R0,AM.R1,AM.R2,qA,qB,qC,qD,qE,↓reduceIte,qG,qH,qI]
 have o2:h1.get (h.n+1+1)=.cells 0 false [.nils]:=by rw [←hh1];simp -implicitDefEqProofs (disch:=first|exact dz _|fail) only [↓AM.R0,AM.R1,AM.R2,qA,qB,qC,qD,qE,↓reduceIte,qG,qH,qI]
 have o0:h1.get h.n=.cells 0 false (List.replicate R.things.length (.bool false)):=by rw [←hh1];simp -implicitDefEqProofs (disch:=first|exact dz _|fail) only [↓AM.R0,AM.R1,AM.R2,qA,qB,qC,qD,qE,↓reduceIte,qG,qH,qI]
 have f1:HFrame h h1 [] []:=by rw [←hh1];(repeat (first | with_reducible apply HFrame.pushTmp | with_reducible refine HFrame.setTmp ?_ (by omega) _ | with_reducible exact HFrame.refl (by simp)))
 clear hh1
 have kn:∀ j,h.n≤j→γ.K j=.no:=fun j hj=>Classical.byContradiction fun e=>by have:=P.k0 j e;omega
 have X1:Vis h h1 γ R (h.n+1) (h.n+1+1) (List.replicate R.things.length false,[]) [h.n+1,h.n+1+1,h.n] :=
  ⟨P.tmp (Chg.ofH f1),⟨_,_,[h.n],[],⟨o1,o2,by omega,by omega,.inr ⟨h.n,0,0,_,by simp,o0,by omega,by simp,by rw [List.drop_zero,List.take_of_length_le (by simp)];exact (flat_rep _),rfl⟩,SlX.nil,by simp;omega⟩,rfl⟩,fun j hj=>kn j (by simp only [List.mem_cons,List.not_mem_nil,or_false] at hj;omega),⟨f1.n,f1.g,fun j hj _=>f1.get j hj (by simp),fun j hj=>.inr (by simp only [List.mem_cons,List.not_mem_nil,or_false] at hj;omega),fun j hj=>by simp only [List.mem_cons,List.not_mem_nil,or_false] at hj;omega⟩⟩
 refine AM.callI_of (rootsS X1 hpr) ?_
 rintro r h2 ⟨F2,X2⟩
 simp -implicitDefEqProofs (disch:=first|exact dz _|fail) only [↓AM.R0,AM.R1,AM.R2,qA,qB,qC,qD,qE,↓reduceIte,qG,qH,qI]
 refine AM.loopI_of (fun k e h5=>∃ (st5:Seen) (F5:List Nat) (c1 w1:Int),e.val 0=.ptr γ.d 0 0∧e.val 4=.ptr (h.n+1) 0 0∧e.val 5=.ptr (h.n+1+1) 0 0∧e.val 6=putV (h.n+1) (h.n+1+1)∧e.val 7=.int .i64 c1∧e.val 8=.int .u64 w1∧Vis h h5 γ R (h.n+1) (h.n+1+1) st5 F5∧reachN k R st5 c1 w1=some (c,w)) n ?_ ?_
 ·refine ⟨_,_,_,_,?_,?_,?_,?_,?_,?_,X2,hpn⟩<;>(simp -implicitDefEqProofs (disch:=first|exact dz _|fail) only [↓AM.R0,AM.R1,AM.R2,qA,qB,qC,qD,qE,↓reduceIte,qG,qH,qI])<;>rfl
 ·clear hpn hpr X1 X2 o0 o1 o2 ho hdl tl ms
  rintro k e h5 ⟨⟨seen,todo⟩,F5,c1,w1,y0,y4,y5,y6,y7,y8,X,hp⟩
  have V0:=X.V
  obtain ⟨sv,tv,Fs,Ft,V,rfl⟩:=X.V
  have lenT:=V.vt.len
  have ot:=V.ot
  have ltt:=V.lt
  simp only at lenT V
  by_cases c0:(0:Int)<todo.length
  ·have d0:decide ((0:Int)<todo.length)=true:=decide_eq_true c0
   cases k with
   | zero=>simp only [reachN] at hp;rw [if_neg (by omega)] at hp;cases hp
   | succ k =>
   simp only [reachN] at hp
   rw [if_neg (by omega)] at hp
   simp only [Option.bind_eq_some_iff] at hp
   obtain ⟨_,hlm,x,hx,t,ht,z,hz,st',hf,hp⟩:=hp
   have hlm:=lim_lt hlm
   rw [List.getLast?_eq_getElem?] at hx
   obtain ⟨x0,x1,x2⟩:=at?_nat ht
   obtain ⟨xt,hxt,T⟩:=X.P.th1 x1
   have P5:=X.P
   have ho:=P5.obj
   have hdl:=P5.ltd
   have wm:IntKind.i64.wrap ((todo.length:Int)-1)=((todo.length-1:Nat):Int):=(wrap64 (by omega) (by omega)).trans (by omega)
   obtain ⟨id1,g1,off1,vs1,ro1,t1,t2,t3,t4⟩:=SlRd.ix1 (enc:=fun n=>.int .u64 n) V.vt.rd hx .i64
   obtain ⟨id2,g2,off2,vs2,ro2,u1,u2,u3,u4,u5⟩:=P5.things.rd.ix (fun _=>rfl) hxt .u64
   have ex:((x.toNat:Nat):Int)=x:=by omega
   rw [ex] at u1
   have u5:(vs2.drop off2).take 3=[.int .i64 xt.1,xt.2.1,xt.2.2]:=u5
   have wc:=T.words.cells
   have wb:=T.words.beq
   have cc:xt.2.2.cell=true:=by
    have:=T.ch
    unfold ChP at this
    cases h:t.ch with
    | none=>rw [h] at this;simp only at this;rw [this];rfl
    | some s=>rw [h] at this;obtain ⟨c,F,e,_⟩:=this;rw [e];rfl
   have cb:xt.2.2.beq xt.2.2=true:=by
    have:=T.ch
    unfold ChP at this
    cases h:t.ch with
    | none=>rw [h] at this;simp only at this;rw [this];rfl
    | some s=>rw [h] at this;obtain ⟨c,F,e,_⟩:=this;rw [e];exact AM.beq_ptr _ _ _
   have gb:=P5.things.beq
   have tb:=V.vt.beq
   have gp:∀ j o,j<h5.n→(h5.push o).get j=h5.get j:=fun j o hj=>AHeap.get_push_ne _ _ (by omega)
   have t1':=ix_keep' t1 (h':=h5.push (.cells 0 false [.int .i64 0,.nils,.nilp])) (gp _ _ t3)
   have t2':=(gp _ (.cells 0 false [.int .i64 0,.nils,.nilp]) t3).trans t2
   have u1':=ix_keep' u1 (h':=h5.push (.cells 0 false [.int .i64 0,.nils,.nilp])) (gp _ _ u3)
   have u2':=(gp _ (.cells 0 false [.int .i64 0,.nils,.nilp]) u3).trans u2
   simp -implicitDefEqProofs (disch:=first|exact dz _|fail) only [↓AM.R0,AM.R1,AM.R2,qA,qB,qC,qD,qE,↓reduceIte,qG,qH,qI,y0,y4,y5,y6,y7,y8,ot,lenT,d0,wm,ho,t1,t2,t4,t1',t2',u1,u1',u2',u2,u5,wc.2,wc.1,wb,cc,cells1 cc,cb,gb,tb,AM.sameO_some]
   generalize hh6:((h5.push (.cells 0 false [.int .i64 0,.nils,.nilp])).set h5.n (.cells 0 false [.int .i64 xt.1,xt.2.1,xt.2.2]))=h6
   have o6:h6.get h5.n=.cells 0 false [.int .i64 xt.1,xt.2.1,xt.2.2]:=by rw [←hh6];exact AHeap.get_set_same _ _ _
   have n6:h6.n=h5.n+1:=by rw [←hh6];rfl
   have f6:HFrame h5 h6 [] []:=by rw [←hh6];(repeat (first | with_reducible apply HFrame.pushTmp | with_reducible refine HFrame.setTmp ?_ (by omega) _ | with_reducible exact HFrame.refl (by simp)))
   clear hh6
   have X6:=X.tmp f6
   have V6:=V0.frame f6.n fun j hj=>f6.get j (V0.ltn j hj) (by simp)
   have ot6:=(f6.get _ V.lt (by simp)).trans V.ot
   have lt6:h.n+1+1<h6.n:=by have:=V.lt;omega
   have vt6:=V.vt.frame f6.n fun j hj=>f6.get j (V.vt.lt j hj) (by simp)
   have len6:=vt6.len
   obtain ⟨tv',q1,q2⟩:=vt6.upto (fun _=>rfl) (m:=todo.length-1) (by omega) .i64
   have cq:=q2.cells
   simp -implicitDefEqProofs (disch:=first|exact dz _|fail) only [↓AM.R0,AM.R1,AM.R2,qA,qB,qC,qD,qE,↓reduceIte,qG,qH,qI,y0,y4,y5,y6,y7,y8,ot6,len6,wm,q1,cq.1,cq.2]
   obtain ⟨h7,hh7⟩:∃ h7,h7=h6.set (h.n+1+1) (.cells 0 false [tv']):=⟨_,rfl⟩
   rw [←hh7]
   have nd:=V.nd
   simp only [List.nodup_cons,List.mem_cons,List.mem_append] at nd
   have k7:∀ j,j≠h.n+1+1→h7.get j=h6.get j:=fun j hj=>by rw [hh7];exact AHeap.get_set_ne _ _ hj
   have n7:h7.n=h6.n:=by rw [hh7];rfl
   have l6:=V6.ltn
   have V7:PutP h7 (h.n+1) (h.n+1+1) (seen,todo.take (todo.length-1)) ((h.n+1)::(h.n+1+1)::(Fs++Ft)):=by
    refine ⟨sv,tv',Fs,Ft,⟨?_,?_,by have:=V.ls;omega,by omega,?_,?_,V.nd⟩,rfl⟩
    ·rw [k7 _ (by omega),f6.get _ V.ls (by simp)];exact V.os
    ·rw [hh7];exact AHeap.get_set_same _ _ _
    ·exact V.vs.frame (by omega) fun j hj=>(k7 j fun q=>nd.2.1 (.inl (q ▸ hj))).trans (f6.get j (V.vs.lt j hj) (by simp))
    ·exact q2.frame (by omega) fun j hj=>k7 j fun q=>nd.2.1 (.inr (q ▸ hj))
   have f67:HFrame h6 h7 ((h.n+1)::(h.n+1+1)::(Fs++Ft)) ((h.n+1)::(h.n+1+1)::(Fs++Ft)) :=
    ⟨by omega,by rw [hh7];rfl,fun j _ hj=>k7 j fun q=>hj (by simp [q]),fun j hj=>.inl hj,fun j hj=>by have:=l6 j hj;omega⟩
   have X7:=X6.put f67 V7
   have o7:h7.get h5.n=.cells 0 false [.int .i64 xt.1,xt.2.1,xt.2.2]:=(k7 _ (by have:=V.lt;omega)).trans o6
   have l7:h5.n<h7.n:=by omega
   clear hh7 k7
   simp -implicitDefEqProofs (disch:=first|exact dz _|fail) only [↓AM.R0,AM.R1,AM.R2,qA,qB,qC,qD,qE,↓reduceIte,qG,qH,qI,o6]
   refine AM.callI_of (sizeS X7.P hxt x1 hz) ?_
   rintro r8 h8 ⟨rfl,f8⟩
   have o8:=(f8.get _ l7 (by simp)).trans o7
   have l8:h5.n<h8.n:=by have:=f8.n;omega
   simp -implicitDefEqProofs (disch:=first|exact dz _|fail) only [↓AM.R0,AM.R1,AM.R2,qA,qB,qC,qD,qE,↓reduceIte,qG,qH,qI,y0,y4,y5,y6,y7,y8,o8]
   refine AM.callI_of (fieldsS (X7.tmp f8) hxt x1 hf) ?_
   rintro r9 h9 ⟨F9,X9⟩
   simp -implicitDefEqProofs (disch:=first|exact dz _|fail) only [↓AM.R0,AM.R1,AM.R2,qA,qB,qC,qD,qE,↓reduceIte,qG,qH,qI,y0,y4,y5,y6,y7,y8]
   exact ⟨k,by omega,st',F9,_,_,rfl,rfl,X9,hp⟩
  ·have d0:decide ((0:Int)<todo.length)=false:=decide_eq_false c0
   have e0:c1=c∧w1=w:=by
    cases k with
    | zero=>simp only [reachN] at hp;rw [if_pos (by omega)] at hp;cases hp;exact ⟨rfl,rfl⟩
    | succ k=>simp only [reachN] at hp;rw [if_pos (by omega)] at hp;cases hp;exact ⟨rfl,rfl⟩
   simp -implicitDefEqProofs (disch:=first|exact dz _|fail) only [↓AM.R0,AM.R1,AM.R2,qA,qB,qC,qD,qE,↓reduceIte,qG,qH,qI,y0,y4,y5,y6,y7,y8,ot,lenT,d0,e0.1,e0.2]
   subst hQ
   exact ⟨rfl,hfNon X.fr⟩
end
end Go.Proofs.Ytnbnpjhlflcjeaa.Id
namespace Go.Proofs.Ytnbnpjhlflcjeaa.Id
open Go Go.AM Go.Proofs.Ytnbnpjhlflcjeaa.AmGR
open Nat renaming reduceAdd → qA,reduceLeDiff → qB,reduceEqDiff → qC,reduceLT → qE
open Int renaming reduceToNat → qD,reduceEq → qG,reduceLT → qH,reduceLE → qI
/-! IdealReach: the programs,and what they show. -/
def cRe:Nat→List PIns
 | 0=>[]
 | k+1=>cRe k++[⟨26,1,0,0,0,[]⟩,⟨30,1,0,0,0,[]⟩,⟨2,0,1,0,0,[]⟩]
def eRe:List PIns:=[⟨2,1,2,0,0,[]⟩,⟨34,0,0,0,0,[]⟩,⟨2,0,2,0,0,[]⟩,⟨34,0,2,0,0,[]⟩,⟨36,0,0,0,0,[]⟩]
def pRe (k:Nat):PProg:=⟨[(false,[16,0,0])],[16],[⟨0,[16,16,16],[],cRe k++eRe⟩]⟩
def stepsN:Nat→Run→Option Run
 | 0,d=>some d
 | n+1,d=>(d.step 0 0).bind fun x=>if x.1=0 then stepsN n x.2 else none
def chkRe (k:Nat):Bool:=goodP (pRe k)&&match Run.new (pRe k) with
 | none=>false
 | some d=>match stepsN (3*k+3) d with
  | none=>false
  | some R=>decide (R.reach 100=some ((k:Int),((3*k:Nat):Int)))&&match R.step 0 0 with
   | none=>false
   | some x=>decide (x.1=0)&&decide (x.2.reach 100=some (0,0))
set_option maxHeartbeats 40000000 in
theorem allRe:(List.range 30).all chkRe=true:=by decide +kernel
theorem reRun (k:Nat) (hk:k<30):goodP (pRe k)=true∧∃ d R R2,Run.new (pRe k)=some d∧stepsN (3*k+3) d=some R∧R.reach 100=some ((k:Int),((3*k:Nat):Int))∧R.step 0 0=some (0,R2)∧R2.reach 100=some (0,0):=by
 have h:=List.all_eq_true.1 allRe k (List.mem_range.2 hk)
 unfold chkRe at h
 rw [Bool.and_eq_true] at h
 obtain ⟨h1,h2⟩:=h
 cases e1:Run.new (pRe k) with
 | none=>rw [e1] at h2;cases h2
 | some d =>
  rw [e1] at h2
  simp only at h2
  cases e2:stepsN (3*k+3) d with
  | none=>rw [e2] at h2;cases h2
  | some R =>
   rw [e2] at h2
   simp only [Bool.and_eq_true,decide_eq_true_eq] at h2
   cases e3:R.step 0 0 with
   | none=>rw [e3] at h2;exact absurd h2.2 (by simp)
   | some x =>
    obtain ⟨x1,x2⟩:=x
    rw [e3] at h2
    simp only [Bool.and_eq_true,decide_eq_true_eq] at h2
    obtain ⟨h3,rfl,h5⟩:=h2
    exact ⟨h1,d,R,x2,rfl,e2,h3,e3,h5⟩
theorem cRe_len (k:Nat):(cRe k).length=3*k:=by
 induction k with
 | zero=>rfl
 | succ k ih=>simp only [cRe,List.length_append,ih,List.length_cons,List.length_nil];omega
end Go.Proofs.Ytnbnpjhlflcjeaa.Id