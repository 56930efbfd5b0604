/-
 What the functions of this seat do,on the machine: lemmas for the laws.
-/
import Derived.Test.YtnbnpjhlflcjeaaBX6
import Derived.Test.YtnbnpjhlflcjeaaBX11
set_option linter.unusedSimpArgs false
set_option linter.unusedVariables false
set_option maxRecDepth 100000
attribute [local irreducible] Go.AM.wp Go.AM.wpIs Go.AM.wpTr Go.AM.opI Go.AM.gI Go.AM.cI Go.AM.trI Go.AM.callI Go.AM.fnI Go.AM.yldI Go.AM.rangeI Go.AM.rangeC Go.AM.YldP Go.AM.asgQ Go.AM.roundQ Go.AM.rangeQ Go.AM.trG Go.AM.trOp Go.AM.trCall Go.AM.seqC Go.AM.loopI
namespace Go.Proofs.Ytnbnpjhlflcjeaa.Id
open Go Go.AM Go.Proofs.Ytnbnpjhlflcjeaa.AmGB
open Nat renaming reduceAdd → qA,reduceLeDiff → qB,reduceEqDiff → qC,reduceLT → qE
open Int renaming reduceToNat → qD,reduceEq → qG,reduceLT → qH,reduceLE → qI
theorem wrap_i64 {n:Int} (h1:-9223372036854775808≤n) (h2:n≤9223372036854775807):IntKind.i64.wrap n=n:=by
 rw [wrap_eq];simp only;split<;>omega
end Go.Proofs.Ytnbnpjhlflcjeaa.Id
namespace Go.Proofs.Ytnbnpjhlflcjeaa.Id
open Go Go.AM Go.Proofs.Ytnbnpjhlflcjeaa.AmGB
open Nat renaming reduceAdd → qA,reduceLeDiff → qB,reduceEqDiff → qC,reduceLT → qE
open Int renaming reduceToNat → qD,reduceEq → qG,reduceLT → qH,reduceLE → qI
end Go.Proofs.Ytnbnpjhlflcjeaa.Id
namespace Go.Proofs.Ytnbnpjhlflcjeaa.Id
open Go Go.AM Go.Proofs.Ytnbnpjhlflcjeaa.AmGB
open Nat renaming reduceAdd → qA,reduceLeDiff → qB,reduceEqDiff → qC,reduceLT → qE
open Int renaming reduceToNat → qD,reduceEq → qG,reduceLT → qH,reduceLE → qI
theorem RowsOf.appR {α:Type} {m:Nat} {R:α→List AVal→Prop} {h:AHeap} {v y:AVal} {l l2:List α} {F:List Nat} (s:RowsOf h m R v l F) (t:SlR h m R y l2) (hne:l2≠[]) (hc:∀ a row,R a row→row.all (·.cell)=true) {bytes:Nat} (hb:(l.length+l2.length)*bytes≤1099511627776) {k:AVal→AHeap→Prop}
  (w:∀ v' h' F',RowsOf h' m R v' (l++l2) F'→HFrame h h' F F'→k v' h'):AM.wpOp (h.app m bytes v y) k:=by
 obtain ⟨rows,s1,s2,s3⟩:=s
 obtain ⟨rows2,t1,t2,t3⟩:=SlR.rows t hc
 have t4:SlRd h m (fun r:Row m=>r.1) y rows2:=by
  rcases t1 with t1 | ⟨e,_⟩
  ·exact t1
  ·subst e;exact absurd (List.eq_nil_of_length_eq_zero t2.symm) hne
 refine SlOf.app (enc:=fun r:Row m=>r.1) s1 t4 (fun a=>a.2.1) (fun a=>a.2.2) (by rw [s2,t2];exact hb) fun v' h' F' s' f'=>w v' h' F' ⟨_,s',by simp [s2,t2],fun i b r' hi hj=>?_⟩ f'
 by_cases hlt:i<l.length
 ·rw [List.getElem?_append_left hlt] at hi
  rw [List.getElem?_append_left (by omega)] at hj
  exact s3 i b r' hi hj
 ·rw [List.getElem?_append_right (by omega)] at hi
  rw [List.getElem?_append_right (by omega)] at hj
  rw [s2] at hj
  exact t3 _ b r' hi hj
theorem InsR.cl {h:AHeap} {i:PIns} {row:List AVal} (r:InsR h i row):row.all (·.cell)=true:=by
 obtain ⟨_,v,rfl,s⟩:=r
 have:=SlIn.cellv s
 simp only [List.all_cons,List.all_nil,this];rfl
end Go.Proofs.Ytnbnpjhlflcjeaa.Id
namespace Go.Proofs.Ytnbnpjhlflcjeaa.Id
open Go Go.AM Go.Proofs.Ytnbnpjhlflcjeaa.AmGB
open Nat renaming reduceAdd → qA,reduceLeDiff → qB,reduceEqDiff → qC,reduceLT → qE
open Int renaming reduceToNat → qD,reduceEq → qG,reduceLT → qH,reduceLE → qI
/-! IdealLate. -/
def cLate1:List Nat→List PIns
 | []=>[]
 | v::l=>⟨1,1,0,0,v,[]⟩::⟨38,1,0,0,0,[1]⟩::cLate1 l
def cLate (l:List Nat):List PIns:=cLate1 l++[⟨1,1,0,0,999,[]⟩,⟨36,0,0,0,0,[]⟩]
end Go.Proofs.Ytnbnpjhlflcjeaa.Id
namespace Go.Proofs.Ytnbnpjhlflcjeaa.Id
open Go Go.AM Go.Proofs.Ytnbnpjhlflcjeaa.AmGB
open Nat renaming reduceAdd → qA,reduceLeDiff → qB,reduceEqDiff → qC,reduceLT → qE
open Int renaming reduceToNat → qD,reduceEq → qG,reduceLT → qH,reduceLE → qI
def InsL (S:List Nat) (i:PIns) (row:List AVal):Prop:=i.imm≤18446744073709551615∧∃ v,row=[.int .i64 i.op,.int .i64 i.a,.int .i64 i.b,.int .i64 i.c,.int .u64 i.imm,v]∧((v=.nils∧i.list=[])∨∃ id,id∈S∧v=.sl id 0 0 1 1∧i.list=[1])
def Ones (h:AHeap) (S:List Nat):Prop:=∀ id,id∈S→h.get id=.cells 0 false [.int .i64 1]∧id<h.n
theorem InsL.cl {S:List Nat} {i:PIns} {row:List AVal} (r:InsL S i row):row.all (·.cell)=true:=by
 obtain ⟨_,v,rfl,s⟩:=r
 rcases s with ⟨rfl,_⟩ | ⟨id,_,rfl,_⟩<;>rfl
theorem InsL.ins {h:AHeap} {S:List Nat} (o:Ones h S) {i:PIns} {row:List AVal} (r:InsL S i row):InsR h i row:=by
 obtain ⟨a,v,rfl,s⟩:=r
 refine ⟨a,v,rfl,?_⟩
 rcases s with ⟨rfl,e⟩ | ⟨id,hid,rfl,e⟩
 ·rw [e];exact SlIn.nilI
 ·rw [e];exact SlIn.lit (l:=[1]) (o id hid).1 rfl (o id hid).2
theorem InsL.more {S S':List Nat} (hs:∀ j,j∈S→j∈S') {i:PIns} {row:List AVal} (r:InsL S i row):InsL S' i row:=by
 obtain ⟨a,v,e,s⟩:=r
 exact ⟨a,v,e,s.imp id fun ⟨id,hid,q⟩=>⟨id,hs id hid,q⟩⟩
end Go.Proofs.Ytnbnpjhlflcjeaa.Id
namespace Go.Proofs.Ytnbnpjhlflcjeaa.Id
open Go Go.AM Go.Proofs.Ytnbnpjhlflcjeaa.AmGB
open Nat renaming reduceAdd → qA,reduceLeDiff → qB,reduceEqDiff → qC,reduceLT → qE
open Int renaming reduceToNat → qD,reduceEq → qG,reduceLT → qH,reduceLE → qI
end Go.Proofs.Ytnbnpjhlflcjeaa.Id
namespace Go.Proofs.Ytnbnpjhlflcjeaa.Id
open Go Go.AM Go.Proofs.Ytnbnpjhlflcjeaa.AmGB
open Nat renaming reduceAdd → qA,reduceLeDiff → qB,reduceEqDiff → qC,reduceLT → qE
open Int renaming reduceToNat → qD,reduceEq → qG,reduceLT → qH,reduceLE → qI
end Go.Proofs.Ytnbnpjhlflcjeaa.Id
namespace Go.Proofs.Ytnbnpjhlflcjeaa.Id
open Go Go.AM Go.Proofs.Ytnbnpjhlflcjeaa.AmGB
open Nat renaming reduceAdd → qA,reduceLeDiff → qB,reduceEqDiff → qC,reduceLT → qE
open Int renaming reduceToNat → qD,reduceEq → qG,reduceLT → qH,reduceLE → qI
/-! IdealSelects: what a run shows hangs on the choice's rest alone. -/
structure Sel where
 slots:List Int
 code:List PIns
 l:List Int
 ready:List Int
def Sel.add (s:Sel) (i:Nat) (b:Bool):Sel :=
 if i%3=2∧b=false then ⟨s.slots++[64],s.code,s.l++[1,((3+i:Nat):Int),1],s.ready⟩
 else ⟨s.slots++[64],(s.code++[⟨41,((3+i:Nat):Int),0,0,1,[]⟩])++(if b then [⟨1,2,0,0,10+i,[]⟩,⟨42,((3+i:Nat):Int),2,0,0,[]⟩] else []),s.l++[1,((3+i:Nat):Int),1],s.ready++(if b then [(i:Int)] else [])⟩
end Go.Proofs.Ytnbnpjhlflcjeaa.Id
namespace Go.Proofs.Ytnbnpjhlflcjeaa.Id
open Go Go.AM Go.Proofs.Ytnbnpjhlflcjeaa.AmGB
open Nat renaming reduceAdd → qA,reduceLeDiff → qB,reduceEqDiff → qC,reduceLT → qE
open Int renaming reduceToNat → qD,reduceEq → qG,reduceLT → qH,reduceLE → qI
end Go.Proofs.Ytnbnpjhlflcjeaa.Id
namespace Go.Proofs.Ytnbnpjhlflcjeaa.Id
open Go Go.AM Go.Proofs.Ytnbnpjhlflcjeaa.AmGB
open Nat renaming reduceAdd → qA,reduceLeDiff → qB,reduceEqDiff → qC,reduceLT → qE
open Int renaming reduceToNat → qD,reduceEq → qG,reduceLT → qH,reduceLE → qI
end Go.Proofs.Ytnbnpjhlflcjeaa.Id
namespace Go.Proofs.Ytnbnpjhlflcjeaa.Id
open Go Go.AM Go.Proofs.Ytnbnpjhlflcjeaa.AmGB
open Nat renaming reduceAdd → qA,reduceLeDiff → qB,reduceEqDiff → qC,reduceLT → qE
open Int renaming reduceToNat → qD,reduceEq → qG,reduceLT → qH,reduceLE → qI
structure SelV (h h5:AHeap) (s:Sel) (sv cv lv rv:AVal) (A B C D:List Nat):Prop where
 slots:SlOf h5 1 encK sv s.slots A
 code:RowsOf h5 6 (InsL []) cv s.code B
 l:SlOf h5 1 encK lv s.l C
 ready:SlOf h5 1 encK rv s.ready D
 ab:∀ j,j∈A→j ∉ B∧j ∉ C∧j ∉ D
 bc:∀ j,j∈B→j ∉ C∧j ∉ D
 cd:∀ j,j∈C→j ∉ D
 get:h.n≤h5.n∧h5.g=h.g∧∀ j,j<h.n→h5.get j=h.get j
 new:∀ j,j∈A++B++C++D→h.n≤j
section
variable {h h5 h6:AHeap} {s:Sel} {sv cv lv rv:AVal} {A B C D:List Nat}
theorem SelV.tmp (V:SelV h h5 s sv cv lv rv A B C D) (f:HFrame h5 h6 [] []):SelV h h6 s sv cv lv rv A B C D :=
 ⟨V.slots.frame f.n fun j hj=>f.get j (V.slots.lt j hj) (by simp),V.code.frame f.n fun j hj=>f.get j (V.code.lt j hj) (by simp),V.l.frame f.n fun j hj=>f.get j (V.l.lt j hj) (by simp),V.ready.frame f.n fun j hj=>f.get j (V.ready.lt j hj) (by simp),V.ab,V.bc,V.cd,
  ⟨by have:=f.n;have:=V.get.1;omega,f.g.trans V.get.2.1,fun j hj=>(f.get j (by have:=V.get.1;omega) (by simp)).trans (V.get.2.2 j hj)⟩,V.new⟩
theorem fNew {X X':List Nat} (f:HFrame h5 h6 X X') {Y:List Nat} (hd:∀ j,j∈Y→j ∉ X) (hl:∀ j,j∈Y→j<h5.n):∀ j,j∈Y→j ∉ X':=fun j hj=>f.out (hd j hj) (hl j hj)
theorem SelV.setCode (V:SelV h h5 s sv cv lv rv A B C D) {X':List Nat} {v':AVal} {c':List PIns} (f:HFrame h5 h6 B X') (t:RowsOf h6 6 (InsL []) v' c' X'):SelV h h6 ⟨s.slots,c',s.l,s.ready⟩ sv v' lv rv A X' C D:=by
 have dA:=fNew f (Y:=A) (fun j hj q=>(V.ab j hj).1 q) V.slots.lt
 have dC:=fNew f (Y:=C) (fun j hj q=>(V.bc j q).1 hj) V.l.lt
 have dD:=fNew f (Y:=D) (fun j hj q=>(V.bc j q).2 hj) V.ready.lt
 exact ⟨V.slots.frame f.n fun j hj=>f.get j (V.slots.lt j hj) fun q=>(V.ab j hj).1 q,t,V.l.frame f.n fun j hj=>f.get j (V.l.lt j hj) fun q=>(V.bc j q).1 hj,V.ready.frame f.n fun j hj=>f.get j (V.ready.lt j hj) fun q=>(V.bc j q).2 hj,
  fun j hj=>⟨dA j hj,(V.ab j hj).2.1,(V.ab j hj).2.2⟩,fun j hj=>⟨fun q=>dC j q hj,fun q=>dD j q hj⟩,fun j hj=>V.cd j hj,
  ⟨by have:=f.n;have:=V.get.1;omega,f.g.trans V.get.2.1,fun j hj=>(f.get j (by have:=V.get.1;omega) fun q=>by have:=V.new j (by simp [q]);omega).trans (V.get.2.2 j hj)⟩,
  fun j hj=>by
   simp only [List.mem_append] at hj
   rcases hj with ((hj | hj) | hj) | hj
   ·exact V.new j (by simp [hj])
   ·rcases f.new j hj with q | q
    ·exact V.new j (by simp [q])
    ·have:=V.get.1;omega
   ·exact V.new j (by simp [hj])
   ·exact V.new j (by simp [hj])⟩
end
end Go.Proofs.Ytnbnpjhlflcjeaa.Id
namespace Go.Proofs.Ytnbnpjhlflcjeaa.Id
open Go Go.AM Go.Proofs.Ytnbnpjhlflcjeaa.AmGB
open Nat renaming reduceAdd → qA,reduceLeDiff → qB,reduceEqDiff → qC,reduceLT → qE
open Int renaming reduceToNat → qD,reduceEq → qG,reduceLT → qH,reduceLE → qI
/-! IdealObjects: the program,and what it shows. -/
def iOb (x:Nat×Nat):List PIns:=[⟨1,2,0,0,x.1,[]⟩,⟨1,3,0,0,x.2,[]⟩,⟨32,8,3,2,0,[]⟩]
def rOb (j:Nat):List PIns:=[⟨1,2,0,0,j,[]⟩,⟨31,0,8,2,0,[]⟩,⟨48,0,0,0,0,[]⟩]
def hOb (k:Nat):List PIns:=[⟨1,1,0,0,k,[]⟩,⟨27,8,1,1,0,[]⟩,⟨28,0,8,0,0,[]⟩,⟨48,0,0,0,0,[]⟩]
def tOb:List PIns:=[⟨27,8,1,1,0,[]⟩,⟨31,0,8,2,0,[]⟩,⟨48,0,0,0,0,[]⟩,⟨36,0,0,0,0,[]⟩]
def cOb (k:Nat) (ps:List (Nat×Nat)):List PIns:=hOb k++ps.flatMap iOb++(List.range k).flatMap rOb++tOb
def sOb (code:List PIns) (pc s0 s1 s2 s3 o:Int) (th:List Thing) (tr:List (Int×Int×Int)):Run :=
 ⟨pOne code,[],th,[⟨1,0,false,[⟨0,pc,1,[s0,s1,s2,s3,0,0,0,0,o,0],[],[],0,false,[]⟩],1,false,0,false⟩],0,tr,false,0⟩
section
variable {code:List PIns} {pc s0 s1 s2 s3 o:Int} {th:List Thing} {tr:List (Int×Int×Int)} {c:Int}
theorem obU:(sOb code pc s0 s1 s2 s3 o th tr).step 0 c=(((at? code pc).bind fun i=>(sOb code (i64 (pc+1)) s0 s1 s2 s3 o th tr).execute 0 0 i c).bind fun d=>d.ending.map fun d=>((0:Int),d)):=by kernel_rfl
theorem obEnd:(sOb code pc s0 s1 s2 s3 o th tr).ending=some (sOb code pc s0 s1 s2 s3 o th tr):=by kernel_rfl
theorem obC1 {j:Nat}:(sOb code pc s0 s1 s2 s3 o th tr).execute 0 0 ⟨1,1,0,0,j,[]⟩ c=some (sOb code pc s0 j s2 s3 o th tr):=by kernel_rfl
theorem obC2 {j:Nat}:(sOb code pc s0 s1 s2 s3 o th tr).execute 0 0 ⟨1,2,0,0,j,[]⟩ c=some (sOb code pc s0 s1 j s3 o th tr):=by kernel_rfl
theorem obC3 {j:Nat}:(sOb code pc s0 s1 s2 s3 o th tr).execute 0 0 ⟨1,3,0,0,j,[]⟩ c=some (sOb code pc s0 s1 s2 j o th tr):=by kernel_rfl
theorem i64_nat {j:Nat} (h:j<1000000):i64 (j:Int)=j:=wrap_i64 (by omega) (by omega)
theorem obStU {j v:Nat} {w:List Int} {t0:Thing} {ts:List Thing}:(sOb code pc s0 s1 j v 1 (t0::⟨17,w,none⟩::ts) tr).execute 0 0 ⟨32,8,3,2,0,[]⟩ c=(if ((32:Int)=31∨(32:Int)=32)∧(i64 j<0∨(w.length:Int)≤i64 j) then (sOb code pc s0 s1 j v 1 (t0::⟨17,w,none⟩::ts) tr).panic (-2) else (set? w (i64 j) v).map fun ws=>sOb code pc s0 s1 j v 1 (t0::⟨17,ws,none⟩::ts) tr):=by kernel_rfl
theorem obSt {j v:Nat} {w:List Int} (hj:j<w.length) (hj2:j<1000) {t0:Thing} {ts:List Thing}:(sOb code pc s0 s1 j v 1 (t0::⟨17,w,none⟩::ts) tr).execute 0 0 ⟨32,8,3,2,0,[]⟩ c=some (sOb code pc s0 s1 j v 1 (t0::⟨17,w.set j v,none⟩::ts) tr):=by
 rw [obStU,i64_nat (by omega),if_neg (by omega)]
 unfold set?
 rw [if_pos (by omega),Option.map_some,Int.toNat_natCast]
theorem obLdU {j:Nat} {w:List Int} {t0:Thing} {ts:List Thing}:(sOb code pc s0 s1 j s3 1 (t0::⟨17,w,none⟩::ts) tr).execute 0 0 ⟨31,0,8,2,0,[]⟩ c=(if ((31:Int)=31∨(31:Int)=32)∧(i64 j<0∨(w.length:Int)≤i64 j) then (sOb code pc s0 s1 j s3 1 (t0::⟨17,w,none⟩::ts) tr).panic (-2) else (at? w (i64 j)).bind fun x=>some (sOb code pc x s1 j s3 1 (t0::⟨17,w,none⟩::ts) tr)):=by kernel_rfl
theorem obLd {j:Nat} {w:List Int} {x:Int} (hj:w[j]?=some x) (hj2:j<1000) {t0:Thing} {ts:List Thing}:(sOb code pc s0 s1 j s3 1 (t0::⟨17,w,none⟩::ts) tr).execute 0 0 ⟨31,0,8,2,0,[]⟩ c=some (sOb code pc x s1 j s3 1 (t0::⟨17,w,none⟩::ts) tr):=by
 have:=(List.getElem?_eq_some_iff.1 hj).1
 rw [obLdU,i64_nat (by omega),if_neg (by omega)]
 unfold at?
 rw [if_pos (by omega),Int.toNat_natCast,hj];rfl
theorem obLd2U {j:Nat} {w:List Int} {t0 t1:Thing}:(sOb code pc s0 s1 j s3 2 [t0,t1,⟨17,w,none⟩] tr).execute 0 0 ⟨31,0,8,2,0,[]⟩ c=(if ((31:Int)=31∨(31:Int)=32)∧(i64 j<0∨(w.length:Int)≤i64 j) then (sOb code pc s0 s1 j s3 2 [t0,t1,⟨17,w,none⟩] tr).panic (-2) else (at? w (i64 j)).bind fun x=>some (sOb code pc x s1 j s3 2 [t0,t1,⟨17,w,none⟩] tr)):=by kernel_rfl
theorem obLd2 {j:Nat} {w:List Int} {x:Int} (hj:w[j]?=some x) (hj2:j<1000) {t0 t1:Thing}:(sOb code pc s0 s1 j s3 2 [t0,t1,⟨17,w,none⟩] tr).execute 0 0 ⟨31,0,8,2,0,[]⟩ c=some (sOb code pc x s1 j s3 2 [t0,t1,⟨17,w,none⟩] tr):=by
 have:=(List.getElem?_eq_some_iff.1 hj).1
 rw [obLd2U,i64_nat (by omega),if_neg (by omega)]
 unfold at?
 rw [if_pos (by omega),Int.toNat_natCast,hj];rfl
theorem obPr (h:tr.length<4000):(sOb code pc s0 s1 s2 s3 o th tr).execute 0 0 ⟨48,0,0,0,0,[]⟩ c=some (sOb code pc s0 s1 s2 s3 o th (tr++[(1,0,s0)])):=by
 have e:(sOb code pc s0 s1 s2 s3 o th tr).execute 0 0 ⟨48,0,0,0,0,[]⟩ c=(sOb code pc s0 s1 s2 s3 o th tr).tell 1 s0:=by kernel_rfl
 rw [e]
 unfold Run.tell
 rw [if_neg (by show ¬ ((1:Int)≤2∧(tr.length:Int)=4095);omega)]
 unfold app?
 rw [if_pos (by show tr.length<1000000000;omega)]
 rfl
theorem obNew {k:Nat} (hk:k<1000) {t0:Thing} {ts:List Thing} (hl:ts.length<1000):(sOb code pc s0 k s2 s3 o (t0::ts) tr).execute 0 0 ⟨27,8,1,1,0,[]⟩ c=some (sOb code pc s0 k s2 s3 ((ts.length+1:Nat):Int) ((t0::ts)++[⟨17,zeros k,none⟩]) tr):=by
 have e:(sOb code pc s0 k s2 s3 o (t0::ts) tr).execute 0 0 ⟨27,8,1,1,0,[]⟩ c=(if i64 k<0∨1023<i64 k then (sOb code pc s0 k s2 s3 o (t0::ts) tr).panic (-2) else ((sOb code pc s0 k s2 s3 o (t0::ts) tr).addT ⟨17,zeros (i64 k).toNat,none⟩).bind fun d'=>d'.put 0 0 8 ((t0::ts).length:Nat)):=by kernel_rfl
 rw [e,i64_nat (by omega),if_neg (by omega)]
 unfold Run.addT app?
 rw [if_pos (by show (t0::ts).length<1000000000;simp only [List.length_cons];omega)]
 rfl
theorem obLen {w:List Int} (hw:w.length<1000) {t0:Thing}:(sOb code pc s0 s1 s2 s3 1 [t0,⟨17,w,none⟩] tr).execute 0 0 ⟨28,0,8,0,0,[]⟩ c=some (sOb code pc w.length s1 s2 s3 1 [t0,⟨17,w,none⟩] tr):=by
 have e:(sOb code pc s0 s1 s2 s3 1 [t0,⟨17,w,none⟩] tr).execute 0 0 ⟨28,0,8,0,0,[]⟩ c=some (sOb code pc (u64 w.length) s1 s2 s3 1 [t0,⟨17,w,none⟩] tr):=by kernel_rfl
 rw [e,show u64 (w.length:Int)=w.length from wrapU64 (by omega) (by omega)]
end
end Go.Proofs.Ytnbnpjhlflcjeaa.Id
namespace Go.Proofs.Ytnbnpjhlflcjeaa.Id
open Go Go.AM Go.Proofs.Ytnbnpjhlflcjeaa.AmGB
open Nat renaming reduceAdd → qA,reduceLeDiff → qB,reduceEqDiff → qC,reduceLT → qE
open Int renaming reduceToNat → qD,reduceEq → qG,reduceLT → qH,reduceLE → qI
section
variable {code rest:List PIns} {s0 s1 s2 s3 o:Int} {th:List Thing} {tr:List (Int×Int×Int)}
theorem drop_tail {α:Type} {l r:List α} {a:α} {n:Nat} (h:l.drop n=a::r):l[n]?=some a∧l.drop (n+1)=r:=by
 have h1:n<l.length:=by
  rcases Nat.lt_or_ge n l.length with q | q
  ·exact q
  ·rw [List.drop_of_length_le q] at h;cases h
 rw [List.drop_eq_getElem_cons h1] at h
 simp only [List.cons.injEq] at h
 exact ⟨by rw [List.getElem?_eq_getElem h1,h.1],h.2⟩
theorem obGo {pc pc':Nat} {ins:PIns} {s0' s1' s2' s3' o':Int} {th':List Thing} {tr':List (Int×Int×Int)} (hpc:pc<1000) (hd:code.drop pc=ins::rest)
  (he:∀ c,(sOb code ((pc+1:Nat):Int) s0 s1 s2 s3 o th tr).execute 0 0 ins c=some (sOb code (pc':Nat) s0' s1' s2' s3' o' th' tr')) (n:Nat) (i:Int):shownN (n+1) i (sOb code (pc:Nat) s0 s1 s2 s3 o th tr)=shownN n (i+1) (sOb code (pc':Nat) s0' s1' s2' s3' o' th' tr'):=by
 have e1:shownN (n+1) i (sOb code (pc:Nat) s0 s1 s2 s3 o th tr)=((sOb code (pc:Nat) s0 s1 s2 s3 o th tr).step 0 (u64 i)).bind fun x=>shownN n (i+1) x.2:=rfl
 have e2:at? code (pc:Int)=some ins:=at?_of (drop_tail hd).1
 have e3:i64 ((pc:Int)+1)=((pc+1:Nat):Int):=(wrap_i64 (by omega) (by omega)).trans (by omega)
 rw [e1,obU,e2,Option.bind_some,e3,he,Option.bind_some,obEnd]
 rfl
def wrOb (w:List Int) (ps:List (Nat×Nat)):List Int:=ps.foldl (fun w x=>w.set x.1 x.2) w
theorem wrOb_len (ps:List (Nat×Nat)):∀ w:List Int,(wrOb w ps).length=w.length:=by
 induction ps with
 | nil=>intro w;rfl
 | cons x ps ih=>intro w;exact (ih _).trans List.length_set
theorem obWrites {t0:Thing}:∀ (ps:List (Nat×Nat)) (pc:Nat) (w:List Int) (j:Nat) (s3 i:Int) (n:Nat),code.drop pc=ps.flatMap iOb++rest→(∀ x,x∈ps→x.1<w.length)→w.length<1000→pc+3*ps.length<1000→j<w.length →
  ∃ (j':Nat) (s3' i':Int),j'<w.length∧code.drop (pc+3*ps.length)=rest∧shownN (3*ps.length+n) i (sOb code (pc:Nat) s0 s1 j s3 1 [t0,⟨17,w,none⟩] tr)=shownN n i' (sOb code ((pc+3*ps.length:Nat):Int) s0 s1 j' s3' 1 [t0,⟨17,wrOb w ps,none⟩] tr)
 | [],pc,w,j,s3,i,n,hd,_,_,_,hj=>⟨j,s3,i,hj,hd,by rw [List.length_nil,Nat.mul_zero,Nat.zero_add];rfl⟩
 | x::ps,pc,w,j,s3,i,n,hd,hx,hw,hp,hj=>by
  simp only [List.length_cons] at hp
  have hx1:=hx x List.mem_cons_self
  have d0:code.drop pc=⟨1,2,0,0,x.1,[]⟩::⟨1,3,0,0,x.2,[]⟩::⟨32,8,3,2,0,[]⟩::(ps.flatMap iOb++rest):=hd
  have d1:=(drop_tail d0).2
  have d2:=(drop_tail d1).2
  have d3:=(drop_tail d2).2
  obtain ⟨j',s3',i',h1,h2,h3⟩:=obWrites (t0:=t0) ps (pc+1+1+1) (w.set x.1 x.2) x.1 x.2 (i+1+1+1) n d3 (fun y hy=>by rw [List.length_set];exact hx y (List.mem_cons_of_mem _ hy)) (by rw [List.length_set];exact hw) (by omega) (by rw [List.length_set];exact hx1)
  refine ⟨j',s3',i',by rw [List.length_set] at h1;exact h1,by rw [←h2,List.length_cons];congr 1;omega,?_⟩
  rw [List.length_cons,show 3*(ps.length+1)+n=3*ps.length+n+1+1+1 by omega,show pc+3*(ps.length+1)=pc+1+1+1+3*ps.length by omega]
  rw [obGo (by omega) d0 (fun c=>obC2),obGo (by omega) d1 (fun c=>obC3),obGo (by omega) d2 (fun c=>obSt hx1 (by omega)),h3]
  rfl
theorem obReads {t0:Thing} {w:List Int} (hw:w.length<1000):∀ (m a pc:Nat) (j:Nat) (s0 i:Int) (n:Nat) (tr:List (Int×Int×Int)),code.drop pc=(List.range' a m).flatMap rOb++rest→a+m=w.length→pc+3*m<1000→tr.length+m<4000→j<w.length →
  ∃ (j':Nat) (s0' i':Int),j'<w.length∧code.drop (pc+3*m)=rest∧shownN (3*m+n) i (sOb code (pc:Nat) s0 s1 j s3 1 [t0,⟨17,w,none⟩] tr)=shownN n i' (sOb code ((pc+3*m:Nat):Int) s0' s1 j' s3 1 [t0,⟨17,w,none⟩] (tr++(w.drop a).map fun x=>(1,0,x)))
 | 0,a,pc,j,s0,i,n,tr,hd,ha,_,_,hj=>⟨j,s0,i,hj,hd,by rw [Nat.mul_zero,Nat.zero_add,List.drop_of_length_le (by omega),List.map_nil,List.append_nil];rfl⟩
 | m+1,a,pc,j,s0,i,n,tr,hd,ha,hp,ht,hj=>by
  obtain ⟨x,hx⟩:∃ x,w[a]?=some x:=⟨_,List.getElem?_eq_getElem (by omega)⟩
  rw [List.range'_succ,List.flatMap_cons] at hd
  have d0:code.drop pc=⟨1,2,0,0,a,[]⟩::⟨31,0,8,2,0,[]⟩::⟨48,0,0,0,0,[]⟩::((List.range' (a+1) m).flatMap rOb++rest):=hd
  have d1:=(drop_tail d0).2
  have d2:=(drop_tail d1).2
  have d3:=(drop_tail d2).2
  obtain ⟨j',s0',i',h1,h2,h3⟩:=obReads (t0:=t0) hw m (a+1) (pc+1+1+1) a x (i+1+1+1) n (tr++[(1,0,x)]) d3 (by omega) (by omega) (by rw [List.length_append,List.length_singleton];omega) (by omega)
  refine ⟨j',s0',i',h1,by rw [←h2];congr 1;omega,?_⟩
  rw [show 3*(m+1)+n=3*m+n+1+1+1 by omega,show pc+3*(m+1)=pc+1+1+1+3*m by omega]
  rw [obGo (by omega) d0 (fun c=>obC2),obGo (by omega) d1 (fun c=>obLd hx (by omega)),obGo (by omega) d2 (fun c=>obPr (by omega)),h3]
  have e1:w.drop a=x::w.drop (a+1):=by
   have:=List.getElem?_eq_some_iff.1 hx
   rw [List.drop_eq_getElem_cons this.1,this.2]
  rw [e1,List.map_cons,List.append_assoc]
  rfl
theorem obRet (h:tr.length<4000) {pc:Nat} (hpc:pc<1000) (hd:code.drop pc=⟨36,0,0,0,0,[]⟩::rest) (n:Nat) (i:Int):∃ R,shownN (n+1) i (sOb code (pc:Nat) s0 s1 s2 s3 o th tr)=some R∧R.trace=tr++[(3,0,0)]:=by
 have e1:shownN (n+1) i (sOb code (pc:Nat) s0 s1 s2 s3 o th tr)=((sOb code (pc:Nat) s0 s1 s2 s3 o th tr).step 0 (u64 i)).bind fun x=>shownN n (i+1) x.2:=rfl
 have e2:at? code (pc:Int)=some ⟨36,0,0,0,0,[]⟩:=at?_of (drop_tail hd).1
 have e3:i64 ((pc:Int)+1)=((pc+1:Nat):Int):=(wrap_i64 (by omega) (by omega)).trans (by omega)
 have e4:(sOb code ((pc+1:Nat):Int) s0 s1 s2 s3 o th tr).execute 0 0 ⟨36,0,0,0,0,[]⟩ (u64 i)=(⟨pOne code,[],th,[⟨3,0,false,[],1,false,0,false⟩],0,tr,false,0⟩:Run).tell 3 0:=by kernel_rfl
 have e5:(⟨pOne code,[],th,[⟨3,0,false,[],1,false,0,false⟩],0,tr,false,0⟩:Run).tell 3 0=some ⟨pOne code,[],th,[⟨3,0,false,[],1,false,0,false⟩],0,tr++[(3,0,0)],true,0⟩:=by
  unfold Run.tell
  rw [if_neg (by show ¬ ((3:Int)≤2∧(tr.length:Int)=4095);omega)]
  unfold app?
  rw [if_pos (by show tr.length<1000000000;omega)]
  rfl
 rw [e1,obU,e2,Option.bind_some,e3,e4,e5]
 refine ⟨⟨pOne code,[],th,[⟨3,0,false,[],1,false,0,false⟩],0,tr++[(3,0,0)],true,0⟩,?_,rfl⟩
 cases n with
 | zero=>rfl
 | succ n=>rfl
end
def tObj (k:Nat) (ps:List (Nat×Nat)):List (Int×Int×Int):=[(1,0,(k:Int))]++(wrOb (zeros k) ps).map (fun x=>(1,0,x))++[(1,0,0),(3,0,0)]
theorem showOb (k:Nat) (hk:0<k) (hk2:k≤20) (ps:List (Nat×Nat)) (hl:ps.length≤30) (hp:∀ x,x∈ps→x.1<k):showF (pOne (cOb k ps)) 400=some (tObj k ps):=by
 have en:Run.new (pOne (cOb k ps))=some (sOb (cOb k ps) (0:Nat) 0 0 (0:Nat) 0 0 [⟨0,[],none⟩] []):=by kernel_rfl
 generalize hc:cOb k ps=code at en ⊢
 have hz:(zeros k).length=k:=by simp [zeros]
 have d0:code.drop 0=⟨1,1,0,0,k,[]⟩::⟨27,8,1,1,0,[]⟩::⟨28,0,8,0,0,[]⟩::⟨48,0,0,0,0,[]⟩::(ps.flatMap iOb++((List.range' 0 k).flatMap rOb++tOb)):=by
  rw [←hc,List.drop_zero,←List.range_eq_range'];simp [cOb,hOb]
 have d1:=(drop_tail d0).2
 have d2:=(drop_tail d1).2
 have d3:=(drop_tail d2).2
 have d4:=(drop_tail d3).2
 obtain ⟨j1,q1,i1,h1,d5,h3⟩:=obWrites (code:=code) (t0:=⟨0,[],none⟩) (s0:=k) (s1:=k) (tr:=[(1,0,(k:Int))]) ps 4 (zeros k) 0 0 4 (3*k+(396-3*ps.length-3*k)) d4 (by rw [hz];exact hp) (by omega) (by omega) (by omega)
 have hwl:=wrOb_len ps (zeros k)
 obtain ⟨j2,q2,i2,h4,d6,h6⟩:=obReads (code:=code) (t0:=⟨0,[],none⟩) (s1:=k) (s3:=q1) (w:=wrOb (zeros k) ps) (by omega) k 0 (4+3*ps.length) j1 k i1 (396-3*ps.length-3*k) [(1,0,(k:Int))] d5 (by omega) (by omega) (by simp only [List.length_cons,List.length_nil];omega) (by omega)
 obtain ⟨n,hn⟩:∃ n,396-3*ps.length-3*k=n+1+1+1+1:=⟨396-3*ps.length-3*k-4,by omega⟩
 have d7:code.drop (4+3*ps.length+3*k)=⟨27,8,1,1,0,[]⟩::⟨31,0,8,2,0,[]⟩::⟨48,0,0,0,0,[]⟩::⟨36,0,0,0,0,[]⟩::[]:=d6
 have d8:=(drop_tail d7).2
 have d9:=(drop_tail d8).2
 have d10:=(drop_tail d9).2
 have lt:((wrOb (zeros k) ps).drop 0).length=k:=by rw [List.drop_zero];omega
 obtain ⟨R,r1,r2⟩:=obRet (code:=code) (tr:=[(1,0,(k:Int))]++(((wrOb (zeros k) ps).drop 0).map fun x=>(1,0,x))++[(1,0,0)]) (s0:=0) (s1:=k) (s2:=j2) (s3:=q1) (o:=((1+1:Nat):Int)) (th:=[⟨0,[],none⟩,⟨17,wrOb (zeros k) ps,none⟩]++[⟨17,zeros k,none⟩]) (by simp only [List.length_append,List.length_map,List.length_cons,List.length_nil,lt];omega) (by omega) d10 n (i2+1+1+1)
 have key:shownN 400 0 (sOb code (0:Nat) 0 0 (0:Nat) 0 0 [⟨0,[],none⟩] [])=some R:=by
  rw [show 400=(3*ps.length+(3*k+(396-3*ps.length-3*k)))+1+1+1+1 by omega]
  refine (obGo (by omega) d0 (fun c=>obC1) _ _).trans ?_
  refine (obGo (o':=1) (th':=[⟨0,[],none⟩,⟨17,zeros k,none⟩]) (by omega) d1 (fun c=>obNew (by omega) (by simp)) _ _).trans ?_
  refine (obGo (pc':=0+1+1+1) (s0':=k) (s2':=(0:Nat)) (by omega) d2 (fun c=>(obLen (by omega)).trans (by rw [hz])) _ _).trans ?_
  refine (obGo (pc':=4) (s2':=(0:Nat)) (tr':=[(1,0,(k:Int))]) (by omega) d3 (fun c=>obPr (by simp)) _ _).trans ?_
  refine Eq.trans h3 ?_
  refine Eq.trans h6 ?_
  rw [hn]
  refine (obGo (o':=2) (th':=[⟨0,[],none⟩,⟨17,wrOb (zeros k) ps,none⟩,⟨17,zeros k,none⟩]) (by omega) d7 (fun c=>obNew (by omega) (by simp)) _ _).trans ?_
  refine (obGo (by omega) d8 (fun c=>obLd2 (x:=0) (by unfold zeros;rw [List.getElem?_replicate,if_pos (by omega)]) (by omega)) _ _).trans ?_
  refine (obGo (by omega) d9 (fun c=>obPr (by simp only [List.length_append,List.length_map,List.length_cons,List.length_nil,lt];omega)) _ _).trans ?_
  exact r1
 unfold showF
 rw [en,Option.bind_some,key,Option.bind_some,r2,if_pos (by simp only [List.length_append,List.length_map,List.length_cons,List.length_nil,lt];omega)]
 rw [List.drop_zero,List.append_assoc]
 rfl
end Go.Proofs.Ytnbnpjhlflcjeaa.Id
namespace Go.Proofs.Ytnbnpjhlflcjeaa.Id
open Go Go.AM Go.Proofs.Ytnbnpjhlflcjeaa.AmGB
open Nat renaming reduceAdd → qA,reduceLeDiff → qB,reduceEqDiff → qC,reduceLT → qE
open Int renaming reduceToNat → qD,reduceEq → qG,reduceLT → qH,reduceLE → qI
def fOne (code:List PIns):PFunc:=⟨0,[0,0,0,0,1,1,1,16,17,64],[],code⟩
theorem firstE_all {f:PIns→Int}:∀ (l:List PIns) (n:Nat),(∀ i,i∈l→f i=0)→V.firstE f l n=(0,0)
 | [],_,_=>rfl
 | a::l,n,h=>by
  unfold V.firstE
  rw [h a List.mem_cons_self,if_neg (by decide)]
  exact firstE_all l (n+1) fun i hi=>h i (List.mem_cons_of_mem _ hi)
theorem goodCode {code:List PIns} (h1:∀ i,i∈code→okI i=true∧i.list.length<1000000) (h2:∀ i,i∈code→V.insF (pOne code) (fOne code) i=0) (hl:code.length≤256) (h0:0<code.length) (hlast:V.lastF code=0):goodP (pOne code)=true:=by
 have hck:(V.checkF (pOne code)).1=0:=by
  have e1:V.typesF (pOne code)=(0,0):=by kernel_rfl
  have e2:V.headF 2 (fOne code) true=0:=by
   have z1:(fOne code).slots.any (V.slotsBad 2)=false:=by kernel_rfl
   have z2:(fOne code).results.any (fun k=>!V.kindF 2 k)=false:=by kernel_rfl
   unfold V.headF
   rw [if_neg (by
    rintro (q | q | q | q | q)
    ·exact absurd (show (32:Nat)<10 from q) (by decide)
    ·exact absurd (show (32:Nat)<0 from q) (by decide)
    ·exact absurd (show 256<code.length from q) (by omega)
    ·exact absurd (show (0:Int)<0 from q) (by decide)
    ·exact absurd (show ((10:Nat):Int)<0 from q) (by decide)),if_neg (by
    rintro ⟨_,q | q⟩
    ·exact q rfl
    ·exact q rfl),z1,if_neg (by decide),z2,if_neg (by decide),show (fOne code).code=code from rfl,if_neg (show ¬ code.length=0 by omega)]
   exact hlast
  have e3:V.headsF 2 (pOne code).funcs 0=(0,0):=by
   show V.headsF 2 (fOne code::_) 0=_
   unfold V.headsF
   rw [show decide (0=0)=true from rfl,e2,if_neg (by decide)]
   kernel_rfl
  have e4:V.codesF (pOne code) (pOne code).funcs 0=(0,0,0):=by
   show V.codesF (pOne code) (fOne code::_) 0=_
   unfold V.codesF
   rw [show (fOne code).code=code from rfl,firstE_all code 0 h2,if_neg (by decide)]
   kernel_rfl
  unfold V.checkF
  rw [e1,if_neg (by decide),show (pOne code).types.length=2 from rfl,e3,if_neg (by decide),e4]
 have h1a:code.all okI=true:=List.all_eq_true.2 fun i hi=>(h1 i hi).1
 have hok:okP (pOne code)=true:=by
  have e:okP (pOne code)=(code.all okI&&true):=by kernel_rfl
  rw [e,h1a];rfl
 have hlim:limP (pOne code)=true:=by
  have hli:code.all limI=true:=List.all_eq_true.2 fun i hi=>decide_eq_true (h1 i hi).2
  have hlc:decide (code.length<1000000)=true:=decide_eq_true (by omega)
  have e:limP (pOne code)=((decide (code.length<1000000)&&code.all limI)&&true):=by kernel_rfl
  rw [e,hli,hlc];rfl
 unfold goodP
 rw [hok,hlim,decide_eq_true hck];rfl
theorem goodOb (k:Nat) (hk:0<k) (hk2:k≤20) (ps:List (Nat×Nat)) (hl:ps.length≤30) (hp:∀ x,x∈ps→x.1<k∧x.2≤255):goodP (pOne (cOb k ps))=true:=by
 have len1:∀ ps:List (Nat×Nat),(ps.flatMap iOb).length=3*ps.length:=fun ps=>by
  induction ps with
  | nil=>rfl
  | cons x ps ih=>rw [List.flatMap_cons,List.length_append,ih,List.length_cons];show 3+_=_;omega
 have len2:∀ l:List Nat,(l.flatMap rOb).length=3*l.length:=fun l=>by
  induction l with
  | nil=>rfl
  | cons x ps ih=>rw [List.flatMap_cons,List.length_append,ih,List.length_cons];show 3+_=_;omega
 have hlen:(cOb k ps).length=8+3*ps.length+3*k:=by
  unfold cOb
  rw [List.length_append,List.length_append,List.length_append,len1,len2,List.length_range]
  show 4+_+_+4=_;omega
 have cases:∀ (P:PIns→Prop),(∀ n:Nat,n≤1000→P ⟨1,1,0,0,n,[]⟩∧P ⟨1,2,0,0,n,[]⟩∧P ⟨1,3,0,0,n,[]⟩)→P ⟨27,8,1,1,0,[]⟩→P ⟨28,0,8,0,0,[]⟩→P ⟨48,0,0,0,0,[]⟩→P ⟨32,8,3,2,0,[]⟩→P ⟨31,0,8,2,0,[]⟩→P ⟨36,0,0,0,0,[]⟩→∀ i,i∈cOb k ps→P i:=by
  intro P c1 c2 c3 c4 c5 c6 c7 i hi
  simp only [cOb,List.mem_append,List.mem_flatMap,hOb,tOb,List.mem_cons,List.not_mem_nil,or_false,List.mem_range] at hi
  rcases hi with ((hi | ⟨x,hx,hi⟩) | ⟨x,hx,hi⟩) | hi
  ·rcases hi with rfl | rfl | rfl | rfl
   ·exact (c1 k (by omega)).1
   ·exact c2
   ·exact c3
   ·exact c4
  ·have:=hp x hx
   simp only [iOb,List.mem_cons,List.not_mem_nil,or_false] at hi
   rcases hi with rfl | rfl | rfl
   ·exact (c1 x.1 (by omega)).2.1
   ·exact (c1 x.2 (by omega)).2.2
   ·exact c5
  ·simp only [rOb,List.mem_cons,List.not_mem_nil,or_false] at hi
   rcases hi with rfl | rfl | rfl
   ·exact (c1 x (by omega)).2.1
   ·exact c6
   ·exact c4
  ·rcases hi with rfl | rfl | rfl | rfl
   ·exact c2
   ·exact c6
   ·exact c4
   ·exact c7
 have hlast:V.lastF (cOb k ps)=0:=by
  have:(cOb k ps).getLast?=some ⟨36,0,0,0,0,[]⟩:=by
   unfold cOb
   rw [List.getLast?_append];rfl
  unfold V.lastF
  rw [this];rfl
 refine goodCode (cases _ ?_ ?_ ?_ ?_ ?_ ?_ ?_) (cases _ ?_ ?_ ?_ ?_ ?_ ?_ ?_) (by omega) (by omega) hlast
 ·intro n hn
  have d:decide (n≤18446744073709551615)=true:=decide_eq_true (by omega)
  have z:(0:Nat)<1000000:=by decide
  refine ⟨⟨?_,z⟩,⟨?_,z⟩,⟨?_,z⟩⟩<;>(unfold okI;simp only [d];rfl)
 ·exact ⟨rfl,by decide⟩
 ·exact ⟨rfl,by decide⟩
 ·exact ⟨rfl,by decide⟩
 ·exact ⟨rfl,by decide⟩
 ·exact ⟨rfl,by decide⟩
 ·exact ⟨rfl,by decide⟩
 ·exact fun n _=>⟨by kernel_rfl,by kernel_rfl,by kernel_rfl⟩
 ·kernel_rfl
 ·kernel_rfl
 ·kernel_rfl
 ·kernel_rfl
 ·kernel_rfl
 ·kernel_rfl
end Go.Proofs.Ytnbnpjhlflcjeaa.Id
namespace Go.Proofs.Ytnbnpjhlflcjeaa.Id
open Go Go.AM Go.Proofs.Ytnbnpjhlflcjeaa.AmGB
open Nat renaming reduceAdd → qA,reduceLeDiff → qB,reduceEqDiff → qC,reduceLT → qE
open Int renaming reduceToNat → qD,reduceEq → qG,reduceLT → qH,reduceLE → qI
structure ObV (h h5:AHeap) (code:List PIns) (want:List (Int×Int×Int)) (words:List Int) (cv wv xv:AVal) (A B C:List Nat):Prop where
 code:RowsOf h5 6 (InsL []) cv code A
 want:SlOf h5 3 encE wv want B
 words:SlX h5 1 encP xv words C
 ab:∀ j,j∈A→j ∉ B∧j ∉ C
 bc:∀ j,j∈B→j ∉ C
 get:h.n≤h5.n∧h5.g=h.g∧∀ j,j<h.n→h5.get j=h.get j
 new:∀ j,j∈A++B++C→h.n≤j
section
variable {h h5 h6:AHeap} {code code':List PIns} {want want':List (Int×Int×Int)} {words words':List Int} {cv wv xv v':AVal} {A B C X':List Nat}
theorem ObV.base {F F':List Nat} (g:h.n≤h5.n∧h5.g=h.g∧∀ j,j<h.n→h5.get j=h.get j) (n:∀ j,j∈F→h.n≤j) (f:HFrame h5 h6 F F'):h.n≤h6.n∧h6.g=h.g∧∀ j,j<h.n→h6.get j=h.get j :=
 ⟨by have:=f.n;have:=g.1;omega,f.g.trans g.2.1,fun j hj=>(f.get j (by have:=g.1;omega) fun q=>by have:=n j q;omega).trans (g.2.2 j hj)⟩
theorem ObV.nw {F F':List Nat} (g:h.n≤h5.n) (n:∀ j,j∈F→h.n≤j) (f:HFrame h5 h6 F F'):∀ j,j∈F'→h.n≤j:=fun j hj=>(f.new j hj).elim (n j) fun q=>Nat.le_trans g q
theorem ObV.tmp (V:ObV h h5 code want words cv wv xv A B C) (f:HFrame h5 h6 [] []):ObV h h6 code want words cv wv xv A B C :=
 ⟨V.code.frame f.n fun j hj=>f.get j (V.code.lt j hj) (by simp),V.want.frame f.n fun j hj=>f.get j (V.want.lt j hj) (by simp),V.words.frame f.n fun j hj=>f.get j (V.words.lt j hj) (by simp),V.ab,V.bc,ObV.base V.get (by simp) f,V.new⟩
theorem ObV.setCode (V:ObV h h5 code want words cv wv xv A B C) (f:HFrame h5 h6 A X') (t:RowsOf h6 6 (InsL []) v' code' X'):ObV h h6 code' want words v' wv xv X' B C:=by
 have dB:=fNew f (Y:=B) (fun j hj q=>(V.ab j q).1 hj) V.want.lt
 have dC:=fNew f (Y:=C) (fun j hj q=>(V.ab j q).2 hj) V.words.lt
 have nA:=ObV.nw V.get.1 (fun j hj=>V.new j (by simp [hj])) f
 refine ⟨t,V.want.frame f.n fun j hj=>f.get j (V.want.lt j hj) fun q=>(V.ab j q).1 hj,V.words.frame f.n fun j hj=>f.get j (V.words.lt j hj) fun q=>(V.ab j q).2 hj,fun j hj=>⟨fun q=>dB j q hj,fun q=>dC j q hj⟩,V.bc,ObV.base V.get (fun j hj=>V.new j (by simp [hj])) f,fun j hj=>?_⟩
 simp only [List.mem_append] at hj
 rcases hj with (hj | hj) | hj
 ·exact nA j hj
 ·exact V.new j (by simp [hj])
 ·exact V.new j (by simp [hj])
theorem ObV.setWant (V:ObV h h5 code want words cv wv xv A B C) (f:HFrame h5 h6 B X') (t:SlOf h6 3 encE v' want' X'):ObV h h6 code want' words cv v' xv A X' C:=by
 have dA:=fNew f (Y:=A) (fun j hj q=>(V.ab j hj).1 q) V.code.lt
 have dC:=fNew f (Y:=C) (fun j hj q=>V.bc j q hj) V.words.lt
 have nA:=ObV.nw V.get.1 (fun j hj=>V.new j (by simp [hj])) f
 refine ⟨V.code.frame f.n fun j hj=>f.get j (V.code.lt j hj) fun q=>(V.ab j hj).1 q,t,V.words.frame f.n fun j hj=>f.get j (V.words.lt j hj) fun q=>V.bc j q hj,fun j hj=>⟨dA j hj,(V.ab j hj).2⟩,fun j hj=>fun q=>dC j q hj,ObV.base V.get (fun j hj=>V.new j (by simp [hj])) f,fun j hj=>?_⟩
 simp only [List.mem_append] at hj
 rcases hj with (hj | hj) | hj
 ·exact V.new j (by simp [hj])
 ·exact nA j hj
 ·exact V.new j (by simp [hj])
theorem ObV.setWords (V:ObV h h5 code want words cv wv xv A B C) (f:HFrame h5 h6 C X') (t:SlX h6 1 encP v' words' X'):ObV h h6 code want words' cv wv v' A B X':=by
 have dA:=fNew f (Y:=A) (fun j hj q=>(V.ab j hj).2 q) V.code.lt
 have dB:=fNew f (Y:=B) (fun j hj q=>V.bc j hj q) V.want.lt
 have nA:=ObV.nw V.get.1 (fun j hj=>V.new j (by simp [hj])) f
 refine ⟨V.code.frame f.n fun j hj=>f.get j (V.code.lt j hj) fun q=>(V.ab j hj).2 q,V.want.frame f.n fun j hj=>f.get j (V.want.lt j hj) fun q=>V.bc j hj q,t,fun j hj=>⟨(V.ab j hj).1,dA j hj⟩,fun j hj=>dB j hj,ObV.base V.get (fun j hj=>V.new j (by simp [hj])) f,fun j hj=>?_⟩
 simp only [List.mem_append] at hj
 rcases hj with (hj | hj) | hj
 ·exact V.new j (by simp [hj])
 ·exact V.new j (by simp [hj])
 ·exact nA j hj
end
end Go.Proofs.Ytnbnpjhlflcjeaa.Id
namespace Go.Proofs.Ytnbnpjhlflcjeaa.Id
open Go Go.AM Go.Proofs.Ytnbnpjhlflcjeaa.AmGB
open Nat renaming reduceAdd → qA,reduceLeDiff → qB,reduceEqDiff → qC,reduceLT → qE
open Int renaming reduceToNat → qD,reduceEq → qG,reduceLT → qH,reduceLE → qI
def psOb (k:Nat) (la lb:List Int):List (Nat×Nat):=((la.zip lb).take 30).map fun x=>((x.1.tmod k).toNat,x.2.toNat)
theorem psOb_len (k:Nat) (la lb:List Int):(psOb k la lb).length=min 30 (min la.length lb.length):=by
 unfold psOb;rw [List.length_map,List.length_take,List.length_zip]
theorem psOb_at {k:Nat} {la lb:List Int} {i:Nat} {a b:Int} (ha:la[i]?=some a) (hb:lb[i]?=some b) (hi:i<30):(psOb k la lb)[i]?=some ((a.tmod k).toNat,b.toNat):=by
 unfold psOb
 rw [List.getElem?_map,List.getElem?_take,if_pos hi,(List.getElem?_zip_eq_some (z:=(a,b))).2 ⟨ha,hb⟩]
 rfl
theorem iOb_len (ps:List (Nat×Nat)):(ps.flatMap iOb).length=3*ps.length:=by
 induction ps with
 | nil=>rfl
 | cons x ps ih=>rw [List.flatMap_cons,List.length_append,ih,List.length_cons];show 3+_=_;omega
theorem rOb_len (l:List Nat):(l.flatMap rOb).length=3*l.length:=by
 induction l with
 | nil=>rfl
 | cons x ps ih=>rw [List.flatMap_cons,List.length_append,ih,List.length_cons];show 3+_=_;omega
set_option maxHeartbeats 4000000 in
theorem lawObjects {h:AHeap} {va vb:AVal} {la lb:List Int} (LA:SlIn h 1 encB va la) (LB:SlIn h 1 encB vb lb) (ha:∀ b,b∈la→0≤b∧b≤255) (hb:∀ b,b∈lb→0≤b∧b≤255) (hla:la.length≤1048576) (hlb:lb.length≤1048576) (x:Int) (hx:0≤x∧x≤255):CallP AP 8 [.int .u8 x,va,vb] h fun r h'=>r=.bool true:=by
 refine callP (rfl:Tr.get AP 8=some A8) ?_
 generalize hQ:(fun (r:AVal) (h':AHeap)=>_)=Q
 obtain ⟨k,hk,hk0,hk20⟩:∃ k:Nat,IntKind.i64.wrap (IntKind.i64.wrap (x.tmod 20)+1)=(k:Int)∧0<k∧k≤20:=by
  have e:x.tmod 20=x%20:=Int.tmod_eq_emod_of_nonneg hx.1
  refine ⟨(x%20).toNat+1,?_,by omega,by omega⟩
  rw [e,wrap_i64 (n:=x%20) (by omega) (by omega),wrap_i64 (by omega) (by omega)]
  omega
 have uk:IntKind.u64.wrap (k:Int)=(k:Int):=wrapU64 (by omega) (by omega)
 have vca:=SlIn.cellv LA
 have vcb:=SlIn.cellv LB
 have lenA:=fun hZ=>SlIn.len LA hZ
 have lenB:=fun hZ=>SlIn.len LB hZ
 have ms:=fun h=>ms_u64 h k (by omega)
 simp -implicitDefEqProofs (disch:=first|exact dz _|fail) only [↓AM.R0,AM.R1,AM.R2,qA,qB,qC,qD,qE,↓reduceIte,qG,qH,qI,hk,uk,ms,AM.a_buildSlice,List.range,List.range.loop,List.getD_cons_zero,List.getD_cons_succ,Nat.mod_one,Nat.reduceMod,Nat.reduceMul]
 generalize hh1:(AHeap.push (AHeap.push (AHeap.push h _) _) _)=h1
 have V1:ObV h h1 (hOb k) [(1,0,(k:Int))] (zeros k) (.sl h.n 0 0 4 6) (.sl (h.n+1) 0 0 1 3) (.sl (h.n+1+1) 0 0 k 1) [h.n] [h.n+1] [h.n+1+1]:=by
  have n1:h1.n=h.n+3:=by rw [←hh1];rfl
  have f1:HFrame h h1 [] []:=by rw [←hh1];(repeat (first | with_reducible apply HFrame.pushTmp | with_reducible refine HFrame.setTmp ?_ (by omega) _ | with_reducible exact HFrame.refl (by simp)))
  have o0:h1.get h.n=.cells 0 false [.int .i64 1,.int .i64 1,.int .i64 0,.int .i64 0,.int .u64 k,.nils,.int .i64 27,.int .i64 8,.int .i64 1,.int .i64 1,.int .u64 0,.nils,.int .i64 28,.int .i64 0,.int .i64 8,.int .i64 0,.int .u64 0,.nils,.int .i64 48,.int .i64 0,.int .i64 0,.int .i64 0,.int .u64 0,.nils]:=by rw [←hh1];simp -implicitDefEqProofs (disch:=first|exact dz _|fail) only [↓AM.R0,AM.R1,AM.R2,qA,qB,qC,qD,qE,↓reduceIte,qG,qH,qI]
  have o1:h1.get (h.n+1)=.cells 0 false [.int .i64 1,.int .i64 0,.int .u64 k]:=by rw [←hh1];simp -implicitDefEqProofs (disch:=first|exact dz _|fail) only [↓AM.R0,AM.R1,AM.R2,qA,qB,qC,qD,qE,↓reduceIte,qG,qH,qI]
  have o2:h1.get (h.n+1+1)=.cells 0 false (List.replicate k (.int .u64 0)):=by rw [←hh1];simp -implicitDefEqProofs (disch:=first|exact dz _|fail) only [↓AM.R0,AM.R1,AM.R2,qA,qB,qC,qD,qE,↓reduceIte,qG,qH,qI]
  have cz:List.replicate k (AVal.int .u64 0)=(zeros k).flatMap encP:=by
   unfold zeros
   clear hk hk0 hk20 uk ms o0 o1 o2 hh1 n1 f1
   induction k with
   | zero=>rfl
   | succ n ih=>rw [List.replicate_succ,List.replicate_succ,List.flatMap_cons,ih];rfl
  refine ⟨⟨[⟨[_,_,_,_,_,_],rfl,rfl⟩,⟨[_,_,_,_,_,_],rfl,rfl⟩,⟨[_,_,_,_,_,_],rfl,rfl⟩,⟨[_,_,_,_,_,_],rfl,rfl⟩],.inr ⟨h.n,0,0,_,rfl,o0,by omega,rfl,rfl,rfl⟩,rfl,?_⟩,.inr ⟨h.n+1,0,0,_,rfl,o1,by omega,rfl,rfl,rfl⟩,SlX.of (.inr ⟨h.n+1+1,0,0,_,by simp [zeros],o2,by omega,?_,?_,rfl⟩),by simp;omega,by simp,⟨f1.n,f1.g,fun j hj=>f1.get j hj (by simp)⟩,by simp;omega⟩
  ·intro i a row hi hr
   match i,hi,hr with
   | 0,hi,hr=>cases hi;cases hr;exact ⟨by show k≤_;omega,_,rfl,.inl ⟨rfl,rfl⟩⟩
   | 1,hi,hr=>cases hi;cases hr;exact ⟨by decide,_,rfl,.inl ⟨rfl,rfl⟩⟩
   | 2,hi,hr=>cases hi;cases hr;exact ⟨by decide,_,rfl,.inl ⟨rfl,rfl⟩⟩
   | 3,hi,hr=>cases hi;cases hr;exact ⟨by decide,_,rfl,.inl ⟨rfl,rfl⟩⟩
   | n+4,hi,hr=>cases hi
  ·simp [zeros]
  ·rw [List.drop_zero,cz]
 clear hh1
 obtain ⟨ps,hps⟩:∃ ps,ps=psOb k la lb:=⟨_,rfl⟩
 have pl:=psOb_len k la lb
 rw [←hps] at pl
 have LLa:∀ {hZ:AHeap},(h.n≤hZ.n∧hZ.g=h.g∧∀ j,j<h.n→hZ.get j=h.get j)→SlIn hZ 1 encB va la:=fun g=>LA.mono g.1 g.2.2
 have LLb:∀ {hZ:AHeap},(h.n≤hZ.n∧hZ.g=h.g∧∀ j,j<h.n→hZ.get j=h.get j)→SlIn hZ 1 encB vb lb:=fun g=>LB.mono g.1 g.2.2
 have psb:∀ x,x∈ps→x.1<k∧x.2≤255:=by
  intro x hx
  rw [hps] at hx
  unfold psOb at hx
  obtain ⟨⟨a,b⟩,hy,rfl⟩:=List.mem_map.1 hx
  have hz:=List.of_mem_zip (List.mem_of_mem_take hy)
  have h1:=ha _ hz.1
  have h2:=hb _ hz.2
  have e:a.tmod k=a%k:=Int.tmod_eq_emod_of_nonneg h1.1
  have e1:=Int.emod_lt_of_pos a (by omega:(0:Int)<k)
  have e2:=Int.emod_nonneg a (by omega:(k:Int)≠0)
  simp only
  omega
 refine AM.loopI_of (fun c e h5=>∃ (i:Nat) (cv wv xv:AVal) (A B C:List Nat),c+i=ps.length∧e.val 1=va∧e.val 2=vb∧e.val 7=.int .i64 k∧e.val 8=cv∧e.val 9=wv∧e.val 10=xv∧e.val 11=.int .i64 i∧ObV h h5 (hOb k++(ps.take i).flatMap iOb) [(1,0,(k:Int))] (wrOb (zeros k) (ps.take i)) cv wv xv A B C) ps.length ?_ ?_
 ·refine ⟨0,_,_,_,_,_,_,by omega,?_,?_,?_,?_,?_,?_,?_,V1⟩<;>(simp -implicitDefEqProofs (disch:=first|exact dz _|fail) only [↓AM.R0,AM.R1,AM.R2,qA,qB,qC,qD,qE,↓reduceIte,qG,qH,qI])<;>rfl
 ·clear V1
  rintro c e h5 ⟨i,cv,wv,xv,A,B,C,hci,y1,y2,y7,y8,y9,y10,y11,V⟩
  by_cases c1:i<ps.length
  ·have d1:decide ((i:Int)<la.length)=true:=decide_eq_true (by omega)
   have d2:decide ((i:Int)<lb.length)=true:=decide_eq_true (by omega)
   have d3:decide ((i:Int)<30)=true:=decide_eq_true (by omega)
   obtain ⟨a,hai⟩:∃ a,la[i]?=some a:=⟨_,List.getElem?_eq_getElem (by omega)⟩
   obtain ⟨b,hbi⟩:∃ b,lb[i]?=some b:=⟨_,List.getElem?_eq_getElem (by omega)⟩
   have hab:=ha a (List.mem_of_getElem? hai)
   have hbb:=hb b (List.mem_of_getElem? hbi)
   have hpi:ps[i]?=some ((a.tmod k).toNat,b.toNat):=by rw [hps];exact psOb_at hai hbi (by omega)
   have hpb:=psb _ (List.mem_of_getElem? hpi)
   obtain ⟨j,hj⟩:∃ j,j=(a.tmod k).toNat:=⟨_,rfl⟩
   obtain ⟨v,hv⟩:∃ v,v=b.toNat:=⟨_,rfl⟩
   rw [←hj,←hv] at hpi hpb
   simp only at hpb
   have ej:a.tmod k=(j:Int):=by
    have e:a.tmod k=a%k:=Int.tmod_eq_emod_of_nonneg hab.1
    have e2:=Int.emod_nonneg a (by omega:(k:Int)≠0)
    omega
   have ev:b=(v:Int):=by omega
   subst ev
   have wa:IntKind.i64.wrap a=a:=wrap_i64 (by omega) (by omega)
   have wv1:IntKind.u64.wrap (v:Int)=(v:Int):=wrapU64 (by omega) (by omega)
   have wj:IntKind.u64.wrap (j:Int)=(j:Int):=wrapU64 (by omega) (by omega)
   have wz:IntKind.i64.wrap ((i:Int)+1)=((i+1:Nat):Int):=(wrap64 (by omega) (by omega)).trans (by omega)
   obtain ⟨id1,g1,off1,vs1,ro1,t1,t2,t3,t4⟩:=SlRd.ixI (enc:=fun n=>.int .u8 n) ((LLa V.get).rd hai) (at?_of (n:=i) hai)
   obtain ⟨id2,g2,off2,vs2,ro2,u1,u2,u3,u4⟩:=SlRd.ixI (enc:=fun n=>.int .u8 n) ((LLb V.get).rd hbi) (at?_of (n:=i) hbi)
   have hwl:=wrOb_len (ps.take i) (zeros k)
   have hzk:(zeros k).length=k:=by simp [zeros]
   obtain ⟨w0,hw0⟩:∃ w,(wrOb (zeros k) (ps.take i))[j]?=some w:=⟨_,List.getElem?_eq_getElem (by omega)⟩
   obtain ⟨id3,g3,off3,vs3,z1,z2,z3,z4,z5,z6,z7,z8⟩:=SlX.at1 (enc:=fun n=>.int .u64 n) V.words hw0
   simp -implicitDefEqProofs (disch:=first|exact dz _|fail) only [↓AM.R0,AM.R1,AM.R2,qA,qB,qC,qD,qE,↓reduceIte,qG,qH,qI,y1,y2,y7,y8,y9,y10,y11,lenA,lenB,d1,d2,d3,t1,t2,t4,u1,u2,u4,wa,ej,wv1,z5,z3,z6,z7]
   obtain ⟨h6,hh6⟩:∃ h6,h6=h5.set id3 (.cells g3 false (vs3.take (off3+j)++[.int .u64 v]++vs3.drop (off3+j+1))):=⟨_,rfl⟩
   rw [←hh6]
   have f6:HFrame h5 h6 C C:=by rw [hh6];exact HFrame.set _ _ _ (by rw [z2];simp) V.words.lt
   have V6:=V.setWords f6 (z8 h6 v (by rw [hh6];exact Nat.le_refl _) (by rw [hh6];exact AHeap.get_set_same _ _ _))
   clear hh6
   obtain ⟨id4,g4,off4,vs4,ro4,u1,u2,u3,u4⟩:=SlRd.ixI (enc:=fun n=>.int .u8 n) ((LLb V6.get).rd hbi) (at?_of (n:=i) hbi)
   simp -implicitDefEqProofs (disch:=first|exact dz _|fail) only [↓AM.R0,AM.R1,AM.R2,qA,qB,qC,qD,qE,↓reduceIte,qG,qH,qI,y1,y2,y7,y8,y9,y10,y11,u1,u2,u4,wj,wv1,AM.a_buildSlice,List.range,List.range.loop,List.getD_cons_zero,List.getD_cons_succ,Nat.mod_one,Nat.reduceMod,Nat.reduceMul]
   generalize hh7:(AHeap.push h6 _)=h7
   have gb:h7.get h6.n=.cells 0 false [.int .i64 1,.int .i64 2,.int .i64 0,.int .i64 0,.int .u64 j,.nils,.int .i64 1,.int .i64 3,.int .i64 0,.int .i64 0,.int .u64 v,.nils,.int .i64 32,.int .i64 8,.int .i64 3,.int .i64 2,.int .u64 0,.nils]:=by rw [←hh7];exact AHeap.get_push_same _ _
   have n7:h7.n=h6.n+1:=by rw [←hh7];rfl
   have V7:=V6.tmp (h6:=h7) (by rw [←hh7];(repeat (first | with_reducible apply HFrame.pushTmp | with_reducible refine HFrame.setTmp ?_ (by omega) _ | with_reducible exact HFrame.refl (by simp))))
   clear hh7
   have R2:SlR h7 6 (InsL []) (.sl h6.n 0 0 3 6) (iOb (j,v)):=SlR.lit (l:=iOb (j,v)) (rows:=[[_,_,_,_,_,_],[_,_,_,_,_,_],[_,_,_,_,_,_]]) gb rfl (by omega) (by simp) ⟨⟨by show j≤_;omega,_,rfl,.inl ⟨rfl,rfl⟩⟩,⟨by show v≤_;omega,_,rfl,.inl ⟨rfl,rfl⟩⟩,⟨by decide,_,rfl,.inl ⟨rfl,rfl⟩⟩,trivial⟩
   have cc7:=V7.code.cells.2
   have cle:(hOb k++(ps.take i).flatMap iOb).length≤100:=by
    rw [List.length_append,iOb_len,List.length_take];show 4+_≤_;omega
   refine AM.opI_of (RowsOf.appR (bytes:=64) V7.code R2 (List.cons_ne_nil _ _) (fun _ _ q=>InsL.cl q) (by simp only [iOb,List.length_cons,List.length_nil];omega) fun cv8 h8 A8 R8 f8=>?_)
   have V8:=V7.setCode f8 R8
   have cc8:=R8.cells.2
   simp -implicitDefEqProofs (disch:=first|exact dz _|fail) only [↓AM.R0,AM.R1,AM.R2,qA,qB,qC,qD,qE,↓reduceIte,qG,qH,qI,y1,y2,y7,y8,y9,y10,y11,cc8,wz]
   have et:ps.take (i+1)=ps.take i++[(j,v)]:=by rw [List.take_add_one,hpi];rfl
   have ew:wrOb (zeros k) (ps.take (i+1))=(wrOb (zeros k) (ps.take i)).set j v:=by rw [et];unfold wrOb;rw [List.foldl_append];rfl
   have ec:hOb k++(ps.take (i+1)).flatMap iOb=hOb k++(ps.take i).flatMap iOb++iOb (j,v):=by rw [et,List.flatMap_append,List.append_assoc];rfl
   rw [←ec,←ew] at V8
   refine ⟨c-1,by omega,i+1,_,_,_,_,_,_,by omega,rfl,rfl,rfl,rfl,V8⟩
  ·have hi:i=ps.length:=by omega
   subst hi
   rw [List.take_length] at V
   have cb:(decide ((ps.length:Int)<la.length)&&decide ((ps.length:Int)<lb.length)&&decide ((ps.length:Int)<30))=false:=by
    rw [Bool.and_eq_false_iff,Bool.and_eq_false_iff,decide_eq_false_iff_not,decide_eq_false_iff_not,decide_eq_false_iff_not]
    omega
   simp -implicitDefEqProofs (disch:=first|exact dz _|fail) only [AM.RGB,↓AM.R0,AM.R1,AM.R2,qA,qB,qC,qD,qE,↓reduceIte,qG,qH,qI,y1,y2,y7,y8,y9,y10,y11,lenA,lenB]
   rw [cb]
   have hwl:=wrOb_len ps (zeros k)
   have hzk:(zeros k).length=k:=by simp [zeros]
   have wl:=V.words.len
   rw [hwl,hzk] at wl
   simp -implicitDefEqProofs (disch:=first|exact dz _|fail) only [↓AM.R0,AM.R1,AM.R2,qA,qB,qC,qD,qE,↓reduceIte,qG,qH,qI,y1,y2,y7,y8,y9,y10,y11,wl]
   clear y1 y2 y11 cb c1 hci
   refine AM.loopI_of (fun c e h6=>∃ (i:Nat) (cv' wv':AVal) (A B:List Nat),c+i=k∧e.val 7=.int .i64 k∧e.val 8=cv'∧e.val 9=wv'∧e.val 76=xv∧e.val 77=.int .i64 k∧e.val 78=.int .i64 i∧ObV h h6 (hOb k++ps.flatMap iOb++(List.range i).flatMap rOb) ([(1,0,(k:Int))]++((wrOb (zeros k) ps).take i).map (fun x=>(1,0,x))) (wrOb (zeros k) ps) cv' wv' xv A B C) k ?_ ?_
   ·refine ⟨0,_,_,_,_,by omega,?_,?_,?_,?_,?_,?_,by simpa using V⟩<;>(simp -implicitDefEqProofs (disch:=first|exact dz _|fail) only [↓AM.R0,AM.R1,AM.R2,qA,qB,qC,qD,qE,↓reduceIte,qG,qH,qI,y7,y8,y9])<;>rfl
   ·clear V y7 y8 y9 y10 wl
    rintro c e h6 ⟨i,cv,wv,A,B,hci,y7,y8,y9,y76,y77,y78,V⟩
    have cc:=V.code.cells.2
    have cw:=SlRd.cl V.want.rd
    by_cases c1:(i:Int)<k
    ·have d1:decide ((i:Int)<k)=true:=decide_eq_true c1
     obtain ⟨w,hw⟩:∃ w,(wrOb (zeros k) ps)[i]?=some w:=⟨_,List.getElem?_eq_getElem (by omega)⟩
     obtain ⟨id1,g1,off1,vs1,ro1,t1,t2,t3,t4⟩:=SlRd.ix1 (enc:=fun n=>.int .u64 n) V.words.rd hw .i64
     have wz:IntKind.i64.wrap ((i:Int)+1)=((i+1:Nat):Int):=(wrap64 (by omega) (by omega)).trans (by omega)
     have wi:IntKind.u64.wrap (i:Int)=(i:Int):=wrapU64 (by omega) (by omega)
     simp -implicitDefEqProofs (disch:=first|exact dz _|fail) only [↓AM.R0,AM.R1,AM.R2,qA,qB,qC,qD,qE,↓reduceIte,qG,qH,qI,y7,y8,y9,y76,y77,y78,d1,t1,t2,t4,wi,AM.a_buildSlice,List.range,List.range.loop,List.getD_cons_zero,List.getD_cons_succ,Nat.mod_one,Nat.reduceMod,Nat.reduceMul]
     generalize hh7:(AHeap.push h6 _)=h7
     have gb:h7.get h6.n=.cells 0 false [.int .i64 1,.int .i64 2,.int .i64 0,.int .i64 0,.int .u64 i,.nils,.int .i64 31,.int .i64 0,.int .i64 8,.int .i64 2,.int .u64 0,.nils,.int .i64 48,.int .i64 0,.int .i64 0,.int .i64 0,.int .u64 0,.nils]:=by rw [←hh7];exact AHeap.get_push_same _ _
     have n7:h7.n=h6.n+1:=by rw [←hh7];rfl
     have V7:=V.tmp (h6:=h7) (by rw [←hh7];(repeat (first | with_reducible apply HFrame.pushTmp | with_reducible refine HFrame.setTmp ?_ (by omega) _ | with_reducible exact HFrame.refl (by simp))))
     clear hh7
     have R2:SlR h7 6 (InsL []) (.sl h6.n 0 0 3 6) (rOb i):=SlR.lit (l:=rOb i) (rows:=[[_,_,_,_,_,_],[_,_,_,_,_,_],[_,_,_,_,_,_]]) gb rfl (by omega) (by simp) ⟨⟨by show i≤_;omega,_,rfl,.inl ⟨rfl,rfl⟩⟩,⟨by decide,_,rfl,.inl ⟨rfl,rfl⟩⟩,⟨by decide,_,rfl,.inl ⟨rfl,rfl⟩⟩,trivial⟩
     have cle:(hOb k++ps.flatMap iOb++(List.range i).flatMap rOb).length≤200:=by
      rw [List.length_append,List.length_append,iOb_len,rOb_len,List.length_range];show 4+_+_≤_;omega
     refine AM.opI_of (RowsOf.appR (bytes:=64) V7.code R2 (List.cons_ne_nil _ _) (fun _ _ q=>InsL.cl q) (by simp only [rOb,List.length_cons,List.length_nil];omega) fun cv8 h8 A8 R8 f8=>?_)
     have V8:=V7.setCode f8 R8
     have cc8:=R8.cells.2
     simp -implicitDefEqProofs (disch:=first|exact dz _|fail) only [↓AM.R0,AM.R1,AM.R2,qA,qB,qC,qD,qE,↓reduceIte,qG,qH,qI,y7,y8,y9,y76,y77,y78,cc8,AM.a_buildSlice,List.range,List.range.loop,List.getD_cons_zero,List.getD_cons_succ,Nat.mod_one,Nat.reduceMod,Nat.reduceMul]
     have wle:([((1:Int),(0:Int),(k:Int))]++((wrOb (zeros k) ps).take i).map (fun x=>(1,0,x))).length≤100:=by
      rw [List.length_append,List.length_map,List.length_take];simp only [List.length_cons,List.length_nil];omega
     refine AM.opI_of (SlOf.app1 (bytes:=24) (enc:=encE) V8.want (fun _=>rfl) (fun _=>rfl) (by omega) (1,0,w) fun wv9 h9 B9 S9 f9=>?_)
     have V9:=V8.setWant f9 S9
     have cw9:=SlRd.cl S9.rd
     simp -implicitDefEqProofs (disch:=first|exact dz _|fail) only [↓AM.R0,AM.R1,AM.R2,qA,qB,qC,qD,qE,↓reduceIte,qG,qH,qI,y7,y8,y9,y76,y77,y78,cw9,wz]
     have e1:(List.range (i+1)).flatMap rOb=(List.range i).flatMap rOb++rOb i:=by rw [List.range_succ,List.flatMap_append];simp
     have e2:((wrOb (zeros k) ps).take (i+1)).map (fun x:Int=>((1:Int),(0:Int),x))=((wrOb (zeros k) ps).take i).map (fun x=>(1,0,x))++[(1,0,w)]:=by rw [List.take_add_one,hw,List.map_append];rfl
     have eV:ObV h h9 (hOb k++ps.flatMap iOb++(List.range (i+1)).flatMap rOb) ([(1,0,(k:Int))]++((wrOb (zeros k) ps).take (i+1)).map (fun x=>(1,0,x))) (wrOb (zeros k) ps) cv8 wv9 xv A8 B9 C:=by
      rw [e1,e2,←List.append_assoc,←List.append_assoc]
      exact V9
     exact ⟨c-1,by omega,i+1,cv8,wv9,A8,B9,by omega,rfl,rfl,rfl,eV⟩
    ·have d1:decide ((i:Int)<k)=false:=decide_eq_false c1
     have:i=k:=by omega
     subst this
     have cle:(hOb i++ps.flatMap iOb++(List.range i).flatMap rOb).length≤200:=by
      rw [List.length_append,List.length_append,iOb_len,rOb_len,List.length_range];show 4+_+_≤_;omega
     have et:(wrOb (zeros i) ps).take i=wrOb (zeros i) ps:=List.take_of_length_le (by omega)
     rw [et] at V
     simp -implicitDefEqProofs (disch:=first|exact dz _|fail) only [↓AM.R0,AM.R1,AM.R2,qA,qB,qC,qD,qE,↓reduceIte,qG,qH,qI,y7,y8,y9,y76,y77,y78,d1,AM.a_buildSlice,List.range,List.range.loop,List.getD_cons_zero,List.getD_cons_succ,Nat.mod_one,Nat.reduceMod,Nat.reduceMul]
     generalize hh7:(AHeap.push h6 _)=h7
     have gb:h7.get h6.n=.cells 0 false [.int .i64 27,.int .i64 8,.int .i64 1,.int .i64 1,.int .u64 0,.nils,.int .i64 31,.int .i64 0,.int .i64 8,.int .i64 2,.int .u64 0,.nils,.int .i64 48,.int .i64 0,.int .i64 0,.int .i64 0,.int .u64 0,.nils,.int .i64 36,.int .i64 0,.int .i64 0,.int .i64 0,.int .u64 0,.nils]:=by rw [←hh7];exact AHeap.get_push_same _ _
     have n7:h7.n=h6.n+1:=by rw [←hh7];rfl
     have V7:=V.tmp (h6:=h7) (by rw [←hh7];(repeat (first | with_reducible apply HFrame.pushTmp | with_reducible refine HFrame.setTmp ?_ (by omega) _ | with_reducible exact HFrame.refl (by simp))))
     clear hh7
     have R2:SlR h7 6 (InsL []) (.sl h6.n 0 0 4 6) tOb:=SlR.lit (l:=tOb) (rows:=[[_,_,_,_,_,_],[_,_,_,_,_,_],[_,_,_,_,_,_],[_,_,_,_,_,_]]) gb rfl (by omega) (by simp) ⟨⟨by decide,_,rfl,.inl ⟨rfl,rfl⟩⟩,⟨by decide,_,rfl,.inl ⟨rfl,rfl⟩⟩,⟨by decide,_,rfl,.inl ⟨rfl,rfl⟩⟩,⟨by decide,_,rfl,.inl ⟨rfl,rfl⟩⟩,trivial⟩
     refine AM.opI_of (RowsOf.appR (bytes:=64) V7.code R2 (List.cons_ne_nil _ _) (fun _ _ q=>InsL.cl q) (by simp only [tOb,List.length_cons,List.length_nil];omega) fun cv8 h8 A8 R8 f8=>?_)
     have V8:=V7.setCode f8 R8
     have cc8:=R8.cells.2
     simp -implicitDefEqProofs (disch:=first|exact dz _|fail) only [↓AM.R0,AM.R1,AM.R2,qA,qB,qC,qD,qE,↓reduceIte,qG,qH,qI,y7,y8,y9,y76,y77,y78,cc8,cells1 cc8,AM.a_buildSlice,List.range,List.range.loop,List.getD_cons_zero,List.getD_cons_succ,Nat.mod_one,Nat.reduceMod,Nat.reduceMul]
     generalize hh9:(AHeap.push h8 _)=h9
     have ge:h9.get h8.n=.cells 0 false [.int .i64 1,.int .i64 0,.int .u64 0,.int .i64 3,.int .i64 0,.int .u64 0]:=by rw [←hh9];exact AHeap.get_push_same _ _
     have n9:h9.n=h8.n+1:=by rw [←hh9];rfl
     have V9:=V8.tmp (h6:=h9) (by rw [←hh9];(repeat (first | with_reducible apply HFrame.pushTmp | with_reducible refine HFrame.setTmp ?_ (by omega) _ | with_reducible exact HFrame.refl (by simp))))
     clear hh9
     have wle:([((1:Int),(0:Int),(i:Int))]++(wrOb (zeros i) ps).map (fun x=>(1,0,x))).length≤100:=by
      rw [List.length_append,List.length_map];simp only [List.length_cons,List.length_nil];omega
     refine AM.opI_of (SlOf.app (bytes:=24) (enc:=encE) V9.want (SlRd.litE (l:=[(1,0,0),(3,0,0)]) ge rfl (by omega)) (fun _=>rfl) (fun _=>rfl) (by simp only [List.length_cons,List.length_nil];omega) fun wvD hD BD sD fD=>?_)
     have VD:=V9.setWant fD sD
     have cD:=SlRd.cl sD.rd
     have eD:([((1:Int),(0:Int),(i:Int))]++(wrOb (zeros i) ps).map (fun x=>(1,0,x)))++[(1,0,0),(3,0,0)]=tObj i ps:=rfl
     rw [eD] at sD
     have RI:SlR hD 6 (InsR hD) cv8 (cOb i ps):=VD.code.slR.mono (fun _ _ q=>q.ins (fun id hid=>by simp at hid)) (Nat.le_refl _) fun _ _=>rfl
     simp -implicitDefEqProofs (disch:=first|exact dz _|fail) only [↓AM.R0,AM.R1,AM.R2,qA,qB,qC,qD,qE,↓reduceIte,qG,qH,qI,y7,y8,y9,y76,y77,y78,cD]
     refine AM.callI_of (awake hD) ?_
     rintro r h11 ⟨rfl,f11⟩
     simp -implicitDefEqProofs (disch:=first|exact dz _|fail) only [↓AM.R0,AM.R1,AM.R2,qA,qB,qC,qD,qE,↓reduceIte,qG,qH,qI,cD]
     refine AM.callI_of (one (RI.mono (fun _ _ q=>q.mono f11.n fun j hj=>f11.get j hj (by simp)) f11.n fun j hj=>f11.get j hj (by simp))) ?_
     rintro r h12 ⟨f12,row,rfl,RR⟩
     simp -implicitDefEqProofs (disch:=first|exact dz _|fail) only [↓AM.R0,AM.R1,AM.R2,qA,qB,qC,qD,qE,↓reduceIte,qG,qH,qI,cD]
     refine AM.callI_of (shownS RR (goodOb i hk0 hk20 ps (by omega) psb) (by decide) (showOb i hk0 hk20 ps (by omega) fun x hx=>(psb x hx).1) (steps:=400)) ?_
     rintro tv h13 ⟨F13,s13,f13⟩
     have c13:=SlRd.cl s13.rd
     simp -implicitDefEqProofs (disch:=first|exact dz _|fail) only [↓AM.R0,AM.R1,AM.R2,qA,qB,qC,qD,qE,↓reduceIte,qG,qH,qI,cD,c13]
     refine AM.callI_of (sameTrace s13.rd (sD.rd.keep ((f11.trans f12).trans (hfNon f13))) (by rw [←eD,List.length_append];simp only [List.length_cons,List.length_nil] at wle ⊢;omega)) ?_
     rintro r h14 ⟨rfl,rfl⟩
     simp -implicitDefEqProofs (disch:=first|exact dz _|fail) only [↓AM.R0,AM.R1,AM.R2,qA,qB,qC,qD,qE,↓reduceIte,qG,qH,qI]
     subst hQ
     first | rfl | exact congrArg AVal.bool (decide_eq_true rfl)
end Go.Proofs.Ytnbnpjhlflcjeaa.Id