/-
 What the functions of this seat do,on the machine: lemmas for the laws.
-/
import Derived.Test.YtnbnpjhlflcjeaaSX6
import Derived.Test.YtnbnpjhlflcjeaaSX11
set_option linter.unusedSimpArgs false
set_option linter.unusedVariables false
set_option maxRecDepth 100000
attribute [local irreducible] Go.AM.wp Go.AM.wpIs Go.AM.wpTr Go.AM.opI Go.AM.gI Go.AM.cI Go.AM.trI Go.AM.callI Go.AM.fnI Go.AM.yldI Go.AM.rangeI Go.AM.rangeC Go.AM.YldP Go.AM.asgQ Go.AM.roundQ Go.AM.rangeQ Go.AM.trG Go.AM.trOp Go.AM.trCall Go.AM.seqC Go.AM.loopI
namespace Go.Proofs.Ytnbnpjhlflcjeaa.Id
open Go Go.AM Go.Proofs.Ytnbnpjhlflcjeaa.AmGS
open Nat renaming reduceAdd → qA,reduceLeDiff → qB,reduceEqDiff → qC,reduceLT → qE
open Int renaming reduceToNat → qD,reduceEq → qG,reduceLT → qH,reduceLE → qI
theorem wrap_i64 {n:Int} (h1:-9223372036854775808≤n) (h2:n≤9223372036854775807):IntKind.i64.wrap n=n:=by
 rw [wrap_eq];simp only;split<;>omega
theorem sameLit {h:AHeap} {tv:AVal} {l:List (Int×Int×Int)} {vs:List AVal} (s:SlRd h 3 encE tv l) (m:List (Int×Int×Int)) (hv:vs=m.flatMap encE) (hb:l.length<1000000):CallP AP 19 [tv,.sl h.n 0 0 m.length 3] (h.push (.cells 0 false vs)) fun r h'=>r=.bool (decide (l=m))∧HFrame h h' [] []:=by
 have f:HFrame h (h.push (.cells 0 false vs)) [] []:=by (repeat (first | with_reducible apply HFrame.pushTmp | with_reducible refine HFrame.setTmp ?_ (by omega) _ | with_reducible exact HFrame.refl (by simp)))
 refine (sameTrace (s.keep f) (SlRd.litE (AHeap.get_push_same _ _) hv (Nat.lt_succ_self _)) hb).mono ?_
 rintro r h' ⟨rfl,rfl⟩
 exact ⟨rfl,f⟩
end Go.Proofs.Ytnbnpjhlflcjeaa.Id
namespace Go.Proofs.Ytnbnpjhlflcjeaa.Id
open Go Go.AM Go.Proofs.Ytnbnpjhlflcjeaa.AmGS
open Nat renaming reduceAdd → qA,reduceLeDiff → qB,reduceEqDiff → qC,reduceLT → qE
open Int renaming reduceToNat → qD,reduceEq → qG,reduceLT → qH,reduceLE → qI
end Go.Proofs.Ytnbnpjhlflcjeaa.Id
namespace Go.Proofs.Ytnbnpjhlflcjeaa.Id
open Go Go.AM Go.Proofs.Ytnbnpjhlflcjeaa.AmGS
open Nat renaming reduceAdd → qA,reduceLeDiff → qB,reduceEqDiff → qC,reduceLT → qE
open Int renaming reduceToNat → qD,reduceEq → qG,reduceLT → qH,reduceLE → qI
theorem RowsOf.appR {α:Type} {m:Nat} {R:α→List AVal→Prop} {h:AHeap} {v y:AVal} {l l2:List α} {F:List Nat} (s:RowsOf h m R v l F) (t:SlR h m R y l2) (hne:l2≠[]) (hc:∀ a row,R a row→row.all (·.cell)=true) {bytes:Nat} (hb:(l.length+l2.length)*bytes≤1099511627776) {k:AVal→AHeap→Prop}
  (w:∀ v' h' F',RowsOf h' m R v' (l++l2) F'→HFrame h h' F F'→k v' h'):AM.wpOp (h.app m bytes v y) k:=by
 obtain ⟨rows,s1,s2,s3⟩:=s
 obtain ⟨rows2,t1,t2,t3⟩:=SlR.rows t hc
 have t4:SlRd h m (fun r:Row m=>r.1) y rows2:=by
  rcases t1 with t1 | ⟨e,_⟩
  ·exact t1
  ·subst e;exact absurd (List.eq_nil_of_length_eq_zero t2.symm) hne
 refine SlOf.app (enc:=fun r:Row m=>r.1) s1 t4 (fun a=>a.2.1) (fun a=>a.2.2) (by rw [s2,t2];exact hb) fun v' h' F' s' f'=>w v' h' F' ⟨_,s',by simp [s2,t2],fun i b r' hi hj=>?_⟩ f'
 by_cases hlt:i<l.length
 ·rw [List.getElem?_append_left hlt] at hi
  rw [List.getElem?_append_left (by omega)] at hj
  exact s3 i b r' hi hj
 ·rw [List.getElem?_append_right (by omega)] at hi
  rw [List.getElem?_append_right (by omega)] at hj
  rw [s2] at hj
  exact t3 _ b r' hi hj
theorem InsR.cl {h:AHeap} {i:PIns} {row:List AVal} (r:InsR h i row):row.all (·.cell)=true:=by
 obtain ⟨_,v,rfl,s⟩:=r
 have:=SlIn.cellv s
 simp only [List.all_cons,List.all_nil,this];rfl
end Go.Proofs.Ytnbnpjhlflcjeaa.Id
namespace Go.Proofs.Ytnbnpjhlflcjeaa.Id
open Go Go.AM Go.Proofs.Ytnbnpjhlflcjeaa.AmGS
open Nat renaming reduceAdd → qA,reduceLeDiff → qB,reduceEqDiff → qC,reduceLT → qE
open Int renaming reduceToNat → qD,reduceEq → qG,reduceLT → qH,reduceLE → qI
/-! IdealLate. -/
def cLate1:List Nat→List PIns
 | []=>[]
 | v::l=>⟨1,1,0,0,v,[]⟩::⟨38,1,0,0,0,[1]⟩::cLate1 l
def cLate (l:List Nat):List PIns:=cLate1 l++[⟨1,1,0,0,999,[]⟩,⟨36,0,0,0,0,[]⟩]
end Go.Proofs.Ytnbnpjhlflcjeaa.Id
namespace Go.Proofs.Ytnbnpjhlflcjeaa.Id
open Go Go.AM Go.Proofs.Ytnbnpjhlflcjeaa.AmGS
open Nat renaming reduceAdd → qA,reduceLeDiff → qB,reduceEqDiff → qC,reduceLT → qE
open Int renaming reduceToNat → qD,reduceEq → qG,reduceLT → qH,reduceLE → qI
def InsL (S:List Nat) (i:PIns) (row:List AVal):Prop:=i.imm≤18446744073709551615∧∃ v,row=[.int .i64 i.op,.int .i64 i.a,.int .i64 i.b,.int .i64 i.c,.int .u64 i.imm,v]∧((v=.nils∧i.list=[])∨∃ id,id∈S∧v=.sl id 0 0 1 1∧i.list=[1])
def Ones (h:AHeap) (S:List Nat):Prop:=∀ id,id∈S→h.get id=.cells 0 false [.int .i64 1]∧id<h.n
theorem InsL.cl {S:List Nat} {i:PIns} {row:List AVal} (r:InsL S i row):row.all (·.cell)=true:=by
 obtain ⟨_,v,rfl,s⟩:=r
 rcases s with ⟨rfl,_⟩ | ⟨id,_,rfl,_⟩<;>rfl
theorem InsL.ins {h:AHeap} {S:List Nat} (o:Ones h S) {i:PIns} {row:List AVal} (r:InsL S i row):InsR h i row:=by
 obtain ⟨a,v,rfl,s⟩:=r
 refine ⟨a,v,rfl,?_⟩
 rcases s with ⟨rfl,e⟩ | ⟨id,hid,rfl,e⟩
 ·rw [e];exact SlIn.nilI
 ·rw [e];exact SlIn.lit (l:=[1]) (o id hid).1 rfl (o id hid).2
theorem InsL.more {S S':List Nat} (hs:∀ j,j∈S→j∈S') {i:PIns} {row:List AVal} (r:InsL S i row):InsL S' i row:=by
 obtain ⟨a,v,e,s⟩:=r
 exact ⟨a,v,e,s.imp id fun ⟨id,hid,q⟩=>⟨id,hs id hid,q⟩⟩
end Go.Proofs.Ytnbnpjhlflcjeaa.Id
namespace Go.Proofs.Ytnbnpjhlflcjeaa.Id
open Go Go.AM Go.Proofs.Ytnbnpjhlflcjeaa.AmGS
open Nat renaming reduceAdd → qA,reduceLeDiff → qB,reduceEqDiff → qC,reduceLT → qE
open Int renaming reduceToNat → qD,reduceEq → qG,reduceLT → qH,reduceLE → qI
section
variable {h h' h1:AHeap} {γ:GI} {R:Run}
end
end Go.Proofs.Ytnbnpjhlflcjeaa.Id
namespace Go.Proofs.Ytnbnpjhlflcjeaa.Id
open Go Go.AM Go.Proofs.Ytnbnpjhlflcjeaa.AmGS
open Nat renaming reduceAdd → qA,reduceLeDiff → qB,reduceEqDiff → qC,reduceLT → qE
open Int renaming reduceToNat → qD,reduceEq → qG,reduceLT → qH,reduceLE → qI
end Go.Proofs.Ytnbnpjhlflcjeaa.Id
namespace Go.Proofs.Ytnbnpjhlflcjeaa.Id
open Go Go.AM Go.Proofs.Ytnbnpjhlflcjeaa.AmGS
open Nat renaming reduceAdd → qA,reduceLeDiff → qB,reduceEqDiff → qC,reduceLT → qE
open Int renaming reduceToNat → qD,reduceEq → qG,reduceLT → qH,reduceLE → qI
end Go.Proofs.Ytnbnpjhlflcjeaa.Id
namespace Go.Proofs.Ytnbnpjhlflcjeaa.Id
open Go Go.AM Go.Proofs.Ytnbnpjhlflcjeaa.AmGS
open Nat renaming reduceAdd → qA,reduceLeDiff → qB,reduceEqDiff → qC,reduceLT → qE
open Int renaming reduceToNat → qD,reduceEq → qG,reduceLT → qH,reduceLE → qI
/-! IdealSelects: what a run shows hangs on the choice's rest alone. -/
structure Sel where
 slots:List Int
 code:List PIns
 l:List Int
 ready:List Int
def Sel.add (s:Sel) (i:Nat) (b:Bool):Sel :=
 if i%3=2∧b=false then ⟨s.slots++[64],s.code,s.l++[1,((3+i:Nat):Int),1],s.ready⟩
 else ⟨s.slots++[64],(s.code++[⟨41,((3+i:Nat):Int),0,0,1,[]⟩])++(if b then [⟨1,2,0,0,10+i,[]⟩,⟨42,((3+i:Nat):Int),2,0,0,[]⟩] else []),s.l++[1,((3+i:Nat):Int),1],s.ready++(if b then [(i:Int)] else [])⟩
def selG:Nat→List Bool→Sel→Sel
 | _,[],s=>s
 | i,b::l,s=>selG (i+1) l (s.add i b)
def sel0:Sel:=⟨[0,0,0],[],[],[]⟩
def pSel (s:Sel) (other:Bool):PProg:=⟨[],[],[⟨0,s.slots,[],s.code++[⟨45,0,if other then 1 else 0,0,0,s.l⟩,⟨48,0,0,0,0,[]⟩,⟨48,1,0,0,0,[]⟩,⟨36,0,0,0,0,[]⟩]⟩]⟩
def runN:Nat→Int→Run→Option Run
 | 0,_,d=>some d
 | n+1,c,d=>if d.ended then some d else (d.step 0 c).bind fun x=>runN n c x.2
def wSel (ready:List Int) (other:Bool) (c:Int):List (Int×Int×Int) :=
 if 0<ready.length then [(1,0,ready.getD (c.tmod ready.length).toNat 0),(1,0,10+ready.getD (c.tmod ready.length).toNat 0),(3,0,0)]
 else if other then [(1,0,18446744073709551615),(1,0,0),(3,0,0)] else [(5,0,0)]
def selFree (n:Nat) (d:Run):Bool:=match d.gs[0]? with
 | none=>true
 | some r=>if r.hit then true else match r.frames[r.frames.length-1]? with
  | none=>true
  | some f=>match at? d.p.funcs f.fn with
   | none=>true
   | some F=>match at? F.code f.pc with
    | none=>true
    | some i=>if i.op=45 then (match readies (({ d with g:=0 }:Run).setR 0 (r.setF (r.frames.length-1) { f with pc:=i64 (f.pc+1) })) f.slots 0 i.list with
     | none=>true
     | some l=>decide (l.length=n)) else true
def okPath (n:Nat) (c:Int):Nat→Run→Bool
 | 0,_=>true
 | m+1,d=>d.ended||(selFree n d&&match d.step 0 c with
  | none=>true
  | some x=>okPath n c m x.2)
def checkOne (full:List Bool) (other:Bool) (c:Nat):Bool:=let s:=selG 0 full sel0
 match Run.new (pSel s other) with
 | none=>false
 | some d=>okPath s.ready.length (c:Nat) 60 d&&(match runN 60 (c:Nat) d with
  | none=>false
  | some R=>decide (R.trace=wSel s.ready other (c:Nat)))
def checkAll (full:List Bool) (other:Bool):Bool:=goodP (pSel (selG 0 full sel0) other)&&(List.range (max 1 (selG 0 full sel0).ready.length)).all (checkOne full other)
def lists:Nat→List (List Bool)
 | 0=>[[]]
 | n+1=>(lists n).flatMap fun l=>[false::l,true::l]
def allLists (n:Nat):Bool:=(lists n).all fun l=>checkAll l false&&checkAll l true
end Go.Proofs.Ytnbnpjhlflcjeaa.Id
namespace Go.Proofs.Ytnbnpjhlflcjeaa.Id
open Go Go.AM Go.Proofs.Ytnbnpjhlflcjeaa.AmGS
open Nat renaming reduceAdd → qA,reduceLeDiff → qB,reduceEqDiff → qC,reduceLT → qE
open Int renaming reduceToNat → qD,reduceEq → qG,reduceLT → qH,reduceLE → qI
set_option maxHeartbeats 40000000 in
theorem all0:allLists 0=true:=by decide +kernel
set_option maxHeartbeats 40000000 in
theorem all1:allLists 1=true:=by decide +kernel
set_option maxHeartbeats 40000000 in
theorem all2:allLists 2=true:=by decide +kernel
set_option maxHeartbeats 40000000 in
theorem all3:allLists 3=true:=by decide +kernel
set_option maxHeartbeats 40000000 in
theorem all4:allLists 4=true:=by decide +kernel
set_option maxHeartbeats 40000000 in
theorem all5:allLists 5=true:=by decide +kernel
set_option maxHeartbeats 40000000 in
theorem all6:allLists 6=true:=by decide +kernel
end Go.Proofs.Ytnbnpjhlflcjeaa.Id
namespace Go.Proofs.Ytnbnpjhlflcjeaa.Id
open Go Go.AM Go.Proofs.Ytnbnpjhlflcjeaa.AmGS
open Nat renaming reduceAdd → qA,reduceLeDiff → qB,reduceEqDiff → qC,reduceLT → qE
open Int renaming reduceToNat → qD,reduceEq → qG,reduceLT → qH,reduceLE → qI
theorem choose_eq {d:Run} {k j:Nat} {i:PIns} {c c':Int} (H:∀ r f l,d.gs[k]?=some r→r.frames[j]?=some f→readies d f.slots 0 i.list=some l→0<l.length→c.tmod l.length=c'.tmod l.length):d.choose k j i c=d.choose k j i c':=by
 unfold Run.choose
 cases hr:d.gs[k]? with
 | none=>rfl
 | some r =>
  simp only [Option.bind_some]
  cases hf:r.frames[j]? with
  | none=>rfl
  | some f =>
   simp only [Option.bind_some]
   cases lim i.list 1000000 with
   | none=>rfl
   | some _ =>
    simp only [Option.bind_some]
    cases hl:readies d f.slots 0 i.list with
    | none=>rfl
    | some l =>
     simp only [Option.bind_some]
     by_cases h0:0<l.length
     ·rw [H r f l hr hf hl h0]
     ·simp only [h0,if_false]
theorem execute_eq {d:Run} {k j:Nat} {i:PIns} {c c':Int} (H:i.op=45→d.choose k j i c=d.choose k j i c'):d.execute k j i c=d.execute k j i c':=by
 by_cases h:i.op=45
 ·simp only [Run.execute,Run.channels,H h]
 ·simp only [Run.execute,Run.channels,h,if_false]
theorem step_sel {d:Run} {n:Nat} {c c':Int} (hf:selFree n d=true) (hc:0<n→c.tmod n=c'.tmod n):d.step 0 c=d.step 0 c':=by
 have ha:({ d with g:=0 }:Run).act 0 c=({ d with g:=0 }:Run).act 0 c':=by
  unfold Run.act
  unfold selFree at hf
  show (d.gs[0]?).bind _=(d.gs[0]?).bind _
  cases hr:d.gs[0]? with
  | none=>simp only [Option.bind_none]
  | some r =>
   rw [hr] at hf
   simp only at hf
   simp only [Option.bind_some]
   cases hh:r.hit with
   | true=>rfl
   | false =>
    rw [hh] at hf
    simp only [Bool.false_eq_true,if_false] at hf ⊢
    cases lim r.frames 1000000 with
    | none=>simp only [Option.bind_none]
    | some _ =>
     simp only [Option.bind_some]
     cases hfr:r.frames[r.frames.length-1]? with
     | none=>simp only [Option.bind_none]
     | some f =>
      rw [hfr] at hf
      simp only at hf
      simp only [Option.bind_some]
      show (at? d.p.funcs f.fn).bind _=(at? d.p.funcs f.fn).bind _
      cases hF:at? d.p.funcs f.fn with
      | none=>simp only [Option.bind_none]
      | some F =>
       rw [hF] at hf
       simp only at hf
       simp only [Option.bind_some]
       cases hi:at? F.code f.pc with
       | none=>simp only [Option.bind_none]
       | some i =>
        rw [hi] at hf
        simp only at hf
        simp only [Option.bind_some]
        refine execute_eq ?_
        intro h45
        rw [if_pos h45] at hf
        generalize hD:(({ d with g:=0 }:Run).setR 0 (r.setF (r.frames.length-1) { f with pc:=i64 (f.pc+1) }))=D at hf ⊢
        have hg:D.gs[0]?=some (r.setF (r.frames.length-1) { f with pc:=i64 (f.pc+1) }):=by
         rw [←hD]
         unfold Run.setR
         exact List.getElem?_set_self (List.getElem?_eq_some_iff.1 hr).1
        have hff:(r.setF (r.frames.length-1) { f with pc:=i64 (f.pc+1) }).frames[r.frames.length-1]?=some { f with pc:=i64 (f.pc+1) }:=by
         unfold Routine.setF
         exact List.getElem?_set_self (List.getElem?_eq_some_iff.1 hfr).1
        clear hD
        refine choose_eq ?_
        intro r' f' l hr' hf' hl h0
        rw [hg] at hr'
        cases hr'
        rw [hff] at hf'
        cases hf'
        rw [hl] at hf
        simp only [decide_eq_true_eq] at hf
        rw [hf] at h0 ⊢
        exact hc h0
 unfold Run.step
 cases at? d.gs 0 with
 | none=>rfl
 | some r=>simp only;rw [show (0:Int).toNat=0 from rfl,ha]
theorem runN_sel {n:Nat} {c c':Int} (hc:0<n→c.tmod n=c'.tmod n):∀ (m:Nat) (d:Run),okPath n c' m d=true→runN m c d=runN m c' d
 | 0,d,_=>rfl
 | m+1,d,h=>by
  unfold okPath at h
  unfold runN
  cases he:d.ended with
  | true=>rfl
  | false =>
   rw [he] at h
   simp only [Bool.false_or,Bool.and_eq_true] at h
   rw [step_sel h.1 hc]
   cases hs:d.step 0 c' with
   | none=>rfl
   | some x =>
    rw [hs] at h
    exact runN_sel hc m x.2 h.2
theorem lists_mem:∀ (n:Nat) (l:List Bool),l.length=n→l∈lists n
 | 0,[],_=>List.mem_cons_self
 | n+1,b::l,h=>by
  simp only [lists,List.mem_flatMap]
  refine ⟨l,lists_mem n l (by simpa using h),?_⟩
  cases b<;>simp
theorem checkAll_ok (l:List Bool) (h:l.length≤6) (other:Bool):checkAll l other=true:=by
 have key:∀ n,allLists n=true→l.length=n→checkAll l other=true:=fun n ha hn=>by
  have:=List.all_eq_true.1 ha l (lists_mem n l hn)
  rw [Bool.and_eq_true] at this
  cases other
  ·exact this.1
  ·exact this.2
 have:l.length=0∨l.length=1∨l.length=2∨l.length=3∨l.length=4∨l.length=5∨l.length=6:=by omega
 rcases this with h | h | h | h | h | h | h
 ·exact key 0 all0 h
 ·exact key 1 all1 h
 ·exact key 2 all2 h
 ·exact key 3 all3 h
 ·exact key 4 all4 h
 ·exact key 5 all5 h
 ·exact key 6 all6 h
theorem selRun (full:List Bool) (h:full.length≤6) (other:Bool) {c:Int} (hc:0≤c):goodP (pSel (selG 0 full sel0) other)=true∧∃ d R,Run.new (pSel (selG 0 full sel0) other)=some d∧runN 60 c d=some R∧R.trace=wSel (selG 0 full sel0).ready other c:=by
 have ha:=checkAll_ok full h other
 unfold checkAll at ha
 rw [Bool.and_eq_true] at ha
 refine ⟨ha.1,?_⟩
 obtain ⟨n,hn⟩:∃ n,n=(selG 0 full sel0).ready.length:=⟨_,rfl⟩
 obtain ⟨c0,hc0,h1,h2⟩:∃ c0:Nat,c0<max 1 n∧(0<n→c.tmod n=(c0:Int).tmod n)∧(0<n→c.tmod n=c0):=by
  by_cases hz:n=0
  ·subst hz
   exact ⟨0,by omega,fun q=>absurd q (by omega),fun q=>absurd q (by omega)⟩
  ·have hpos:(0:Int)<n:=by omega
   have e:c.tmod n=c%n:=Int.tmod_eq_emod_of_nonneg hc
   have l1:=Int.emod_lt_of_pos c hpos
   have l0:=Int.emod_nonneg c (by omega:(n:Int)≠0)
   refine ⟨(c%n).toNat,by omega,fun _=>?_,fun _=>by rw [e];omega⟩
   rw [e,Int.tmod_eq_emod_of_nonneg (by omega),Int.toNat_of_nonneg l0,Int.emod_emod]
 have hb:=List.all_eq_true.1 ha.2 c0 (List.mem_range.2 (by rw [←hn];exact hc0))
 unfold checkOne at hb
 simp only at hb
 cases hd:Run.new (pSel (selG 0 full sel0) other) with
 | none=>rw [hd] at hb;cases hb
 | some d =>
  rw [hd] at hb
  simp only [Bool.and_eq_true] at hb
  rw [←hn] at hb
  cases hR:runN 60 (c0:Int) d with
  | none=>rw [hR] at hb;exact absurd hb.2 (by simp)
  | some R =>
   rw [hR] at hb
   simp only [decide_eq_true_eq] at hb
   refine ⟨d,R,rfl,(runN_sel h1 60 d hb.1).trans hR,hb.2.trans ?_⟩
   unfold wSel
   rw [←hn]
   by_cases h0:0<n
   ·rw [if_pos h0,if_pos h0,h1 h0]
   ·rw [if_neg h0,if_neg h0]
end Go.Proofs.Ytnbnpjhlflcjeaa.Id
namespace Go.Proofs.Ytnbnpjhlflcjeaa.Id
open Go Go.AM Go.Proofs.Ytnbnpjhlflcjeaa.AmGS
open Nat renaming reduceAdd → qA,reduceLeDiff → qB,reduceEqDiff → qC,reduceLT → qE
open Int renaming reduceToNat → qD,reduceEq → qG,reduceLT → qH,reduceLE → qI
structure SelV (h h5:AHeap) (s:Sel) (sv cv lv rv:AVal) (A B C D:List Nat):Prop where
 slots:SlOf h5 1 encK sv s.slots A
 code:RowsOf h5 6 (InsL []) cv s.code B
 l:SlOf h5 1 encK lv s.l C
 ready:SlOf h5 1 encK rv s.ready D
 ab:∀ j,j∈A→j ∉ B∧j ∉ C∧j ∉ D
 bc:∀ j,j∈B→j ∉ C∧j ∉ D
 cd:∀ j,j∈C→j ∉ D
 get:h.n≤h5.n∧h5.g=h.g∧∀ j,j<h.n→h5.get j=h.get j
 new:∀ j,j∈A++B++C++D→h.n≤j
section
variable {h h5 h6:AHeap} {s:Sel} {sv cv lv rv:AVal} {A B C D:List Nat}
theorem SelV.tmp (V:SelV h h5 s sv cv lv rv A B C D) (f:HFrame h5 h6 [] []):SelV h h6 s sv cv lv rv A B C D :=
 ⟨V.slots.frame f.n fun j hj=>f.get j (V.slots.lt j hj) (by simp),V.code.frame f.n fun j hj=>f.get j (V.code.lt j hj) (by simp),V.l.frame f.n fun j hj=>f.get j (V.l.lt j hj) (by simp),V.ready.frame f.n fun j hj=>f.get j (V.ready.lt j hj) (by simp),V.ab,V.bc,V.cd,
  ⟨by have:=f.n;have:=V.get.1;omega,f.g.trans V.get.2.1,fun j hj=>(f.get j (by have:=V.get.1;omega) (by simp)).trans (V.get.2.2 j hj)⟩,V.new⟩
theorem fNew {X X':List Nat} (f:HFrame h5 h6 X X') {Y:List Nat} (hd:∀ j,j∈Y→j ∉ X) (hl:∀ j,j∈Y→j<h5.n):∀ j,j∈Y→j ∉ X':=fun j hj=>f.out (hd j hj) (hl j hj)
theorem SelV.setSlots (V:SelV h h5 s sv cv lv rv A B C D) {A':List Nat} {sv':AVal} {l':List Int} (f:HFrame h5 h6 A A') (t:SlOf h6 1 encK sv' l' A'):SelV h h6 ⟨l',s.code,s.l,s.ready⟩ sv' cv lv rv A' B C D:=by
 have dB:=fNew f (Y:=B) (fun j hj q=>(V.ab j q).1 hj) V.code.lt
 have dC:=fNew f (Y:=C) (fun j hj q=>(V.ab j q).2.1 hj) V.l.lt
 have dD:=fNew f (Y:=D) (fun j hj q=>(V.ab j q).2.2 hj) V.ready.lt
 exact ⟨t,V.code.frame f.n fun j hj=>f.get j (V.code.lt j hj) fun q=>(V.ab j q).1 hj,V.l.frame f.n fun j hj=>f.get j (V.l.lt j hj) fun q=>(V.ab j q).2.1 hj,V.ready.frame f.n fun j hj=>f.get j (V.ready.lt j hj) fun q=>(V.ab j q).2.2 hj,
  fun j hj=>⟨fun q=>dB j q hj,fun q=>dC j q hj,fun q=>dD j q hj⟩,V.bc,V.cd,
  ⟨by have:=f.n;have:=V.get.1;omega,f.g.trans V.get.2.1,fun j hj=>(f.get j (by have:=V.get.1;omega) fun q=>by have:=V.new j (by simp [q]);omega).trans (V.get.2.2 j hj)⟩,
  fun j hj=>by
   simp only [List.mem_append] at hj
   rcases hj with ((hj | hj) | hj) | hj
   ·rcases f.new j hj with q | q
    ·exact V.new j (by simp [q])
    ·have:=V.get.1;omega
   ·exact V.new j (by simp [hj])
   ·exact V.new j (by simp [hj])
   ·exact V.new j (by simp [hj])⟩
theorem SelV.setCode (V:SelV h h5 s sv cv lv rv A B C D) {X':List Nat} {v':AVal} {c':List PIns} (f:HFrame h5 h6 B X') (t:RowsOf h6 6 (InsL []) v' c' X'):SelV h h6 ⟨s.slots,c',s.l,s.ready⟩ sv v' lv rv A X' C D:=by
 have dA:=fNew f (Y:=A) (fun j hj q=>(V.ab j hj).1 q) V.slots.lt
 have dC:=fNew f (Y:=C) (fun j hj q=>(V.bc j q).1 hj) V.l.lt
 have dD:=fNew f (Y:=D) (fun j hj q=>(V.bc j q).2 hj) V.ready.lt
 exact ⟨V.slots.frame f.n fun j hj=>f.get j (V.slots.lt j hj) fun q=>(V.ab j hj).1 q,t,V.l.frame f.n fun j hj=>f.get j (V.l.lt j hj) fun q=>(V.bc j q).1 hj,V.ready.frame f.n fun j hj=>f.get j (V.ready.lt j hj) fun q=>(V.bc j q).2 hj,
  fun j hj=>⟨dA j hj,(V.ab j hj).2.1,(V.ab j hj).2.2⟩,fun j hj=>⟨fun q=>dC j q hj,fun q=>dD j q hj⟩,fun j hj=>V.cd j hj,
  ⟨by have:=f.n;have:=V.get.1;omega,f.g.trans V.get.2.1,fun j hj=>(f.get j (by have:=V.get.1;omega) fun q=>by have:=V.new j (by simp [q]);omega).trans (V.get.2.2 j hj)⟩,
  fun j hj=>by
   simp only [List.mem_append] at hj
   rcases hj with ((hj | hj) | hj) | hj
   ·exact V.new j (by simp [hj])
   ·rcases f.new j hj with q | q
    ·exact V.new j (by simp [q])
    ·have:=V.get.1;omega
   ·exact V.new j (by simp [hj])
   ·exact V.new j (by simp [hj])⟩
theorem SelV.setL (V:SelV h h5 s sv cv lv rv A B C D) {X':List Nat} {v':AVal} {l':List Int} (f:HFrame h5 h6 C X') (t:SlOf h6 1 encK v' l' X'):SelV h h6 ⟨s.slots,s.code,l',s.ready⟩ sv cv v' rv A B X' D:=by
 have dA:=fNew f (Y:=A) (fun j hj q=>(V.ab j hj).2.1 q) V.slots.lt
 have dB:=fNew f (Y:=B) (fun j hj q=>(V.bc j hj).1 q) V.code.lt
 have dD:=fNew f (Y:=D) (fun j hj q=>(V.cd j q) hj) V.ready.lt
 exact ⟨V.slots.frame f.n fun j hj=>f.get j (V.slots.lt j hj) fun q=>(V.ab j hj).2.1 q,V.code.frame f.n fun j hj=>f.get j (V.code.lt j hj) fun q=>(V.bc j hj).1 q,t,V.ready.frame f.n fun j hj=>f.get j (V.ready.lt j hj) fun q=>(V.cd j q) hj,
  fun j hj=>⟨(V.ab j hj).1,dA j hj,(V.ab j hj).2.2⟩,fun j hj=>⟨dB j hj,(V.bc j hj).2⟩,fun j hj=>fun q=>dD j q hj,
  ⟨by have:=f.n;have:=V.get.1;omega,f.g.trans V.get.2.1,fun j hj=>(f.get j (by have:=V.get.1;omega) fun q=>by have:=V.new j (by simp [q]);omega).trans (V.get.2.2 j hj)⟩,
  fun j hj=>by
   simp only [List.mem_append] at hj
   rcases hj with ((hj | hj) | hj) | hj
   ·exact V.new j (by simp [hj])
   ·exact V.new j (by simp [hj])
   ·rcases f.new j hj with q | q
    ·exact V.new j (by simp [q])
    ·have:=V.get.1;omega
   ·exact V.new j (by simp [hj])⟩
theorem SelV.setReady (V:SelV h h5 s sv cv lv rv A B C D) {X':List Nat} {v':AVal} {l':List Int} (f:HFrame h5 h6 D X') (t:SlOf h6 1 encK v' l' X'):SelV h h6 ⟨s.slots,s.code,s.l,l'⟩ sv cv lv v' A B C X':=by
 have dA:=fNew f (Y:=A) (fun j hj q=>(V.ab j hj).2.2 q) V.slots.lt
 have dB:=fNew f (Y:=B) (fun j hj q=>(V.bc j hj).2 q) V.code.lt
 have dC:=fNew f (Y:=C) (fun j hj q=>(V.cd j hj) q) V.l.lt
 exact ⟨V.slots.frame f.n fun j hj=>f.get j (V.slots.lt j hj) fun q=>(V.ab j hj).2.2 q,V.code.frame f.n fun j hj=>f.get j (V.code.lt j hj) fun q=>(V.bc j hj).2 q,V.l.frame f.n fun j hj=>f.get j (V.l.lt j hj) fun q=>(V.cd j hj) q,t,
  fun j hj=>⟨(V.ab j hj).1,(V.ab j hj).2.1,dA j hj⟩,fun j hj=>⟨(V.bc j hj).1,dB j hj⟩,fun j hj=>dC j hj,
  ⟨by have:=f.n;have:=V.get.1;omega,f.g.trans V.get.2.1,fun j hj=>(f.get j (by have:=V.get.1;omega) fun q=>by have:=V.new j (by simp [q]);omega).trans (V.get.2.2 j hj)⟩,
  fun j hj=>by
   simp only [List.mem_append] at hj
   rcases hj with ((hj | hj) | hj) | hj
   ·exact V.new j (by simp [hj])
   ·exact V.new j (by simp [hj])
   ·exact V.new j (by simp [hj])
   ·rcases f.new j hj with q | q
    ·exact V.new j (by simp [q])
    ·have:=V.get.1;omega⟩
end
end Go.Proofs.Ytnbnpjhlflcjeaa.Id
namespace Go.Proofs.Ytnbnpjhlflcjeaa.Id
open Go Go.AM Go.Proofs.Ytnbnpjhlflcjeaa.AmGS
open Nat renaming reduceAdd → qA,reduceLeDiff → qB,reduceEqDiff → qC,reduceLT → qE
open Int renaming reduceToNat → qD,reduceEq → qG,reduceLT → qH,reduceLE → qI
abbrev encO (b:Bool):List AVal:=[.bool b]
def InsS (l:List Int) (o:Int) (lv:AVal) (i:PIns) (row:List AVal):Prop:=InsL [] i row∨(i=⟨45,0,o,0,0,l⟩∧row=[.int .i64 45,.int .i64 0,.int .i64 o,.int .i64 0,.int .u64 0,lv])
theorem InsS.ins {h:AHeap} {l:List Int} {o:Int} {lv:AVal} (s:SlIn h 1 encK lv l) {i:PIns} {row:List AVal} (r:InsS l o lv i row):InsR h i row:=by
 rcases r with r | ⟨rfl,rfl⟩
 ·exact r.ins (fun id hid=>by simp at hid)
 ·exact ⟨by show (0:Nat)≤_;omega,lv,rfl,s⟩
theorem InsS.cl {l:List Int} {o:Int} {lv:AVal} (hc:lv.cell=true) {i:PIns} {row:List AVal} (r:InsS l o lv i row):row.all (·.cell)=true:=by
 rcases r with r | ⟨rfl,rfl⟩
 ·exact r.cl
 ·simp only [List.all_cons,List.all_nil,hc];rfl
theorem wSel_len (ready:List Int) (b:Bool) (c:Int):(wSel ready b c).length<1000000:=by
 unfold wSel
 split
 ·simp
 ·split<;>simp
theorem sel_ready:∀ (l:List Bool) (i:Nat) (s:Sel),(∀ a,a∈s.ready→0≤a∧a<i)→∀ a,a∈(selG i l s).ready→0≤a∧a<i+l.length
 | [],i,s,h,a,ha=>by have:=h a ha;simp;omega
 | b::l,i,s,h,a,ha=>by
  have:=sel_ready l (i+1) (s.add i b) (fun a ha=>by
   unfold Sel.add at ha
   split at ha
   ·have:=h a ha;omega
   ·simp only [List.mem_append] at ha
    rcases ha with ha | ha
    ·have:=h a ha;omega
    ·cases b
     ·simp at ha
     ·simp at ha;omega) a ha
  simp only [List.length_cons];omega
theorem sel_at {l:List Int} {c:Int} (hc:0≤c) (hl:∀ a,a∈l→0≤a∧a<6) (h:0<l.length):∃ (q:Nat) (a:Int),(q:Int)=c.tmod l.length∧l[q]?=some a∧l.getD (c.tmod l.length).toNat 0=l.getD q 0∧l.getD q 0=a∧0≤a∧a<6:=by
 have e:c.tmod l.length=c%l.length:=Int.tmod_eq_emod_of_nonneg hc
 have h1:=Int.emod_lt_of_pos c (by omega:(0:Int)<l.length)
 have h0:=Int.emod_nonneg c (by omega:(l.length:Int)≠0)
 have ha:l[(c.tmod l.length).toNat]?=some (l[(c.tmod l.length).toNat]'(by omega)):=List.getElem?_eq_getElem _
 have hm:=hl _ (List.mem_of_getElem? ha)
 refine ⟨(c.tmod l.length).toNat,_,by omega,ha,rfl,?_,hm⟩
 rw [List.getD_eq_getElem?_getD,ha];rfl
set_option maxHeartbeats 4000000 in
theorem lawSelects {h:AHeap} {v:AVal} {l:List Bool} (L:SlIn h 1 encO v l) (hl:l.length≤1048576) (c:Int) (hc:0≤c∧c≤18446744073709551615) (b:Bool):CallP AP 3 [v,.int .u64 c,.bool b] h fun r h'=>r=.bool true:=by
 refine callP (rfl:Tr.get AP 3=some A3) ?_
 generalize hQ:(fun (r:AVal) (h':AHeap)=>_)=Q
 have vc:=SlIn.cellv L
 have hlen:=fun hZ=>SlIn.len L hZ
 obtain ⟨m,hm⟩:∃ m:Nat,m=min l.length 6:=⟨_,rfl⟩
 have em:min (l.length:Int) 6=(m:Int):=by omega
 obtain ⟨v',e1,L'⟩:=L.uptoAt (fun _=>rfl) (m:=m) (by omega) .i64 (h1:=h) (fun _ _=>rfl)
 obtain ⟨fl,hfl⟩:∃ fl,fl=l.take m:=⟨_,rfl⟩
 have hnm:fl.length=m:=by rw [hfl,List.length_take];omega
 rw [←hfl] at L'
 have hlen':=fun hZ=>SlIn.len L' hZ
 have vc':=SlIn.cellv L'
 have LL:∀ hZ,h.n≤hZ.n→(∀ j,j<h.n→hZ.get j=h.get j)→SlIn hZ 1 encO v' fl:=fun hZ n k=>L'.mono n k
 simp -implicitDefEqProofs (disch:=first|exact dz _|fail) only [↓AM.R0,AM.R1,AM.R2,qA,qB,qC,qD,qE,↓reduceIte,qG,qH,qI,hlen,em,e1,hlen',AM.a_buildSlice,List.range,List.range.loop,List.getD_cons_zero,List.getD_cons_succ,Nat.mod_one,Nat.reduceMod,Nat.reduceMul]
 generalize hh0:((h.push (.cells 0 false [.int .i64 0,.int .i64 0,.int .i64 0])).push (.cells 0 false []))=h0
 have V0:SelV h h0 sel0 (.sl h.n 0 0 3 1) (.sl (h.n+1) 0 0 0 6) .nils .nils [h.n] [h.n+1] [] []:=by
  have g0:h0.get h.n=.cells 0 false [.int .i64 0,.int .i64 0,.int .i64 0]:=by rw [←hh0];simp -implicitDefEqProofs (disch:=first|exact dz _|fail) only [↓AM.R0,AM.R1,AM.R2,qA,qB,qC,qD,qE,↓reduceIte,qG,qH,qI]
  have g1:h0.get (h.n+1)=.cells 0 false []:=by rw [←hh0];simp -implicitDefEqProofs (disch:=first|exact dz _|fail) only [↓AM.R0,AM.R1,AM.R2,qA,qB,qC,qD,qE,↓reduceIte,qG,qH,qI]
  have n0:h0.n=h.n+2:=by rw [←hh0];rfl
  have f0:HFrame h h0 [] []:=by rw [←hh0];(repeat (first | with_reducible apply HFrame.pushTmp | with_reducible refine HFrame.setTmp ?_ (by omega) _ | with_reducible exact HFrame.refl (by simp)))
  exact ⟨.inr ⟨h.n,0,0,_,rfl,g0,by omega,rfl,rfl,rfl⟩,⟨[],.inr ⟨h.n+1,0,0,[],rfl,g1,by omega,rfl,rfl,rfl⟩,rfl,by simp⟩,SlOf.nil,SlOf.nil,by simp,by simp,by simp,⟨f0.n,f0.g,fun j hj=>f0.get j hj (by simp)⟩,by simp⟩
 clear hh0
 refine AM.loopI_of (fun k e h5=>∃ (i:Nat) (s:Sel) (sv cv lv rv:AVal) (A B C D:List Nat),k+i=fl.length∧e.val 1=.int .u64 c∧e.val 2=.bool b∧e.val 7=sv∧e.val 8=cv∧e.val 9=lv∧e.val 10=rv∧e.val 26=v'∧e.val 27=.int .i64 fl.length∧e.val 28=.int .i64 i∧SelV h h5 s sv cv lv rv A B C D∧selG i (fl.drop i) s=selG 0 fl sel0∧s.slots.length≤3+i∧s.code.length≤3*i∧s.l.length≤3*i∧s.ready.length≤i) fl.length ?_ ?_
 ·refine ⟨0,sel0,_,_,_,_,_,_,_,_,by omega,?_,?_,?_,?_,?_,?_,?_,?_,?_,V0,rfl,by decide,by decide,by decide,by decide⟩<;>(simp -implicitDefEqProofs (disch:=first|exact dz _|fail) only [↓AM.R0,AM.R1,AM.R2,qA,qB,qC,qD,qE,↓reduceIte,qG,qH,qI])<;>rfl
 ·rintro k e h5 ⟨i,s,sv,cv,lv,rv,A,B,C,D,hki,y1,y2,y7,y8,y9,y10,y26,y27,y28,V,hG,b1,b2,b3,b4⟩
  by_cases c1:(i:Int)<fl.length
  ·have d1:decide ((i:Int)<fl.length)=true:=decide_eq_true c1
   obtain ⟨a,ha⟩:∃ a,fl[i]?=some a:=⟨_,List.getElem?_eq_getElem (by omega)⟩
   have hi:=List.getElem?_eq_some_iff.1 ha
   have ed:fl.drop i=a::fl.drop (i+1):=by rw [List.drop_eq_getElem_cons hi.1,hi.2]
   rw [ed] at hG
   have hG:selG (i+1) (fl.drop (i+1)) (s.add i a)=selG 0 fl sel0:=hG
   obtain ⟨id1,g1,off1,vs1,ro1,t1,t2,t3,t4⟩:=SlRd.ix1 (enc:=fun n=>.bool n) ((LL h5 V.get.1 V.get.2.2).rd ha) ha .i64
   have w3:IntKind.i64.wrap (3+(i:Int))=((3+i:Nat):Int):=(wrap64 (by omega) (by omega)).trans (by omega)
   have w10:IntKind.i64.wrap (10+(i:Int))=((10+i:Nat):Int):=(wrap64 (by omega) (by omega)).trans (by omega)
   have wz:IntKind.i64.wrap ((i:Int)+1)=((i+1:Nat):Int):=(wrap64 (by omega) (by omega)).trans (by omega)
   have cs:=SlRd.cl V.slots.rd
   simp -implicitDefEqProofs (disch:=first|exact dz _|fail) only [↓AM.R0,AM.R1,AM.R2,qA,qB,qC,qD,qE,↓reduceIte,qG,qH,qI,y1,y2,y7,y8,y9,y10,y26,y27,y28,d1,t1,t2,t4,cs]
   refine AM.opI_of (SlOf.app1 (bytes:=8) (enc:=encK) V.slots (fun _=>rfl) (fun _=>rfl) (by omega) 64 fun sv' h6 A' S6 f6=>?_)
   have V6:=V.setSlots f6 S6
   have cs6:=SlRd.cl S6.rd
   have cl:=SlRd.cl V.l.rd
   have cr:=SlRd.cl V.ready.rd
   have cc:=V.code.cells.2
   simp -implicitDefEqProofs (disch:=first|exact dz _|fail) only [↓AM.R0,AM.R1,AM.R2,qA,qB,qC,qD,qE,↓reduceIte,qG,qH,qI,y1,y2,y7,y8,y9,y10,y26,y27,y28,cs6]
   have u10:IntKind.u64.wrap ((10+i:Nat):Int)=((10+i:Nat):Int):=wrapU64 (by omega) (by omega)
   by_cases c2:i%3=2
   ·have d2:decide ((i:Int).tmod 3=2)=true:=decide_eq_true (by rw [Int.tmod_eq_emod_of_nonneg (by omega)];omega)
    cases a with
    | false =>
     have hadd:s.add i false=⟨s.slots++[64],s.code,s.l++[1,((3+i:Nat):Int),1],s.ready⟩:=if_pos ⟨c2,rfl⟩
     simp -implicitDefEqProofs (disch:=first|exact dz _|fail) only [↓AM.R0,AM.R1,AM.R2,qA,qB,qC,qD,qE,↓reduceIte,qG,qH,qI,y1,y2,y7,y8,y9,y10,y26,y27,y28,d2,cl,w3,AM.a_buildSlice,List.range,List.range.loop,List.getD_cons_zero,List.getD_cons_succ,Nat.mod_one,Nat.reduceMod,Nat.reduceMul]
     refine AM.opI_of (SlOf.app (bytes:=8) (enc:=encK) (V6.tmp (HFrame.pushTmp (HFrame.refl (by simp)) _)).l (SlRd.lit (l:=[1,((3+i:Nat):Int),1]) (AHeap.get_push_same _ _) (fun _=>rfl) rfl (Nat.lt_succ_self _)) (fun _=>rfl) (fun _=>rfl) (by simp only [List.length_cons,List.length_nil];omega) fun lv' h9 C' S9 f9=>?_)
     have V9:=SelV.setL (V6.tmp (HFrame.pushTmp (HFrame.refl (by simp)) _)) f9 S9
     have cl9:=SlRd.cl S9.rd
     simp -implicitDefEqProofs (disch:=first|exact dz _|fail) only [↓AM.R0,AM.R1,AM.R2,qA,qB,qC,qD,qE,↓reduceIte,qG,qH,qI,y1,y2,y7,y8,y9,y10,y26,y27,y28,cl9,wz]
     rw [hadd] at hG
     exact ⟨k-1,by omega,i+1,_,_,_,_,_,_,_,_,_,by omega,rfl,rfl,rfl,rfl,rfl,V9,hG,by simp only [List.length_append,List.length_cons,List.length_nil];omega,by simp only [List.length_append,List.length_cons,List.length_nil];omega,by simp only [List.length_append,List.length_cons,List.length_nil];omega,by simp only [List.length_append,List.length_cons,List.length_nil];omega⟩
    | true =>
     have hadd:s.add i true=⟨s.slots++[64],(s.code++[⟨41,((3+i:Nat):Int),0,0,1,[]⟩])++[⟨1,2,0,0,10+i,[]⟩,⟨42,((3+i:Nat):Int),2,0,0,[]⟩],s.l++[1,((3+i:Nat):Int),1],s.ready++[(i:Int)]⟩:=if_neg (by simp)
     simp -implicitDefEqProofs (disch:=first|exact dz _|fail) only [↓AM.R0,AM.R1,AM.R2,qA,qB,qC,qD,qE,↓reduceIte,qG,qH,qI,y1,y2,y7,y8,y9,y10,y26,y27,y28,d2,cc,w3,AM.a_buildSlice,List.range,List.range.loop,List.getD_cons_zero,List.getD_cons_succ,Nat.mod_one,Nat.reduceMod,Nat.reduceMul]
     refine AM.opI_of (V6.code.app1 (bytes:=64) (by show (s.code.length+1)*64≤_;omega) (a:=⟨41,((3+i:Nat):Int),0,0,1,[]⟩) (row:=[.int .i64 41,.int .i64 ((3+i:Nat):Int),.int .i64 0,.int .i64 0,.int .u64 1,.nils]) rfl rfl ⟨by show (1:Nat)≤_;omega,_,rfl,.inl ⟨rfl,rfl⟩⟩ fun cv' h7 B' R7 f7=>?_)
     have V7:=V6.setCode f7 R7
     have cc7:=R7.cells.2
     simp -implicitDefEqProofs (disch:=first|exact dz _|fail) only [↓AM.R0,AM.R1,AM.R2,qA,qB,qC,qD,qE,↓reduceIte,qG,qH,qI,y1,y2,y7,y8,y9,y10,y26,y27,y28,cc7,cl,w3,w10,u10,AM.a_buildSlice,List.range,List.range.loop,List.getD_cons_zero,List.getD_cons_succ,Nat.mod_one,Nat.reduceMod,Nat.reduceMul]
     generalize hh8:(h7.push (.cells 0 false [.int .i64 1,.int .i64 2,.int .i64 0,.int .i64 0,.int .u64 ((10+i:Nat):Int),.nils,.int .i64 42,.int .i64 ((3+i:Nat):Int),.int .i64 2,.int .i64 0,.int .u64 0,.nils]))=h8
     have g8:h8.get h7.n=.cells 0 false [.int .i64 1,.int .i64 2,.int .i64 0,.int .i64 0,.int .u64 ((10+i:Nat):Int),.nils,.int .i64 42,.int .i64 ((3+i:Nat):Int),.int .i64 2,.int .i64 0,.int .u64 0,.nils]:=by rw [←hh8];exact AHeap.get_push_same _ _
     have n8:h8.n=h7.n+1:=by rw [←hh8];rfl
     have V8:=V7.tmp (h6:=h8) (by rw [←hh8];(repeat (first | with_reducible apply HFrame.pushTmp | with_reducible refine HFrame.setTmp ?_ (by omega) _ | with_reducible exact HFrame.refl (by simp))))
     clear hh8
     have R2:SlR h8 6 (InsL []) (.sl h7.n 0 0 2 6) [⟨1,2,0,0,10+i,[]⟩,⟨42,((3+i:Nat):Int),2,0,0,[]⟩]:=SlR.lit (l:=[(⟨1,2,0,0,10+i,[]⟩:PIns),⟨42,((3+i:Nat):Int),2,0,0,[]⟩]) (rows:=[[.int .i64 1,.int .i64 2,.int .i64 0,.int .i64 0,.int .u64 ((10+i:Nat):Int),.nils],[.int .i64 42,.int .i64 ((3+i:Nat):Int),.int .i64 2,.int .i64 0,.int .u64 0,.nils]]) g8 rfl (by omega) (by simp) ⟨⟨by show 10+i≤_;omega,_,rfl,.inl ⟨rfl,rfl⟩⟩,⟨by show (0:Nat)≤_;omega,_,rfl,.inl ⟨rfl,rfl⟩⟩,trivial⟩
     refine AM.opI_of (RowsOf.appR (bytes:=64) V8.code R2 (List.cons_ne_nil _ _) (fun _ _ q=>InsL.cl q) (by simp only [List.length_append,List.length_cons,List.length_nil];omega) fun cv8 h10 B8 R8 f8=>?_)
     have V10:=V8.setCode f8 R8
     have cc8:=R8.cells.2
     have cr8:=SlRd.cl V10.ready.rd
     simp -implicitDefEqProofs (disch:=first|exact dz _|fail) only [↓AM.R0,AM.R1,AM.R2,qA,qB,qC,qD,qE,↓reduceIte,qG,qH,qI,y1,y2,y7,y8,y9,y10,y26,y27,y28,cc8,cr8,cr]
     refine AM.opI_of (SlOf.app1 (bytes:=8) (enc:=encK) V10.ready (fun _=>rfl) (fun _=>rfl) (by show (s.ready.length+1)*8≤_;omega) (i:Int) fun rv' h11 D' S11 f11=>?_)
     have V11:=V10.setReady f11 S11
     have cr11:=SlRd.cl S11.rd
     simp -implicitDefEqProofs (disch:=first|exact dz _|fail) only [↓AM.R0,AM.R1,AM.R2,qA,qB,qC,qD,qE,↓reduceIte,qG,qH,qI,y1,y2,y7,y8,y9,y10,y26,y27,y28,cr11,cl,w3,AM.a_buildSlice,List.range,List.range.loop,List.getD_cons_zero,List.getD_cons_succ,Nat.mod_one,Nat.reduceMod,Nat.reduceMul]
     refine AM.opI_of (SlOf.app (bytes:=8) (enc:=encK) (V11.tmp (HFrame.pushTmp (HFrame.refl (by simp)) _)).l (SlRd.lit (l:=[1,((3+i:Nat):Int),1]) (AHeap.get_push_same _ _) (fun _=>rfl) rfl (Nat.lt_succ_self _)) (fun _=>rfl) (fun _=>rfl) (by simp only [List.length_cons,List.length_nil];omega) fun lv' h9 C' S9 f9=>?_)
     have V9:=SelV.setL (V11.tmp (HFrame.pushTmp (HFrame.refl (by simp)) _)) f9 S9
     have cl9:=SlRd.cl S9.rd
     simp -implicitDefEqProofs (disch:=first|exact dz _|fail) only [↓AM.R0,AM.R1,AM.R2,qA,qB,qC,qD,qE,↓reduceIte,qG,qH,qI,y1,y2,y7,y8,y9,y10,y26,y27,y28,cl9,wz]
     rw [hadd] at hG
     exact ⟨k-1,by omega,i+1,_,_,_,_,_,_,_,_,_,by omega,rfl,rfl,rfl,rfl,rfl,V9,hG,by simp only [List.length_append,List.length_cons,List.length_nil];omega,by simp only [List.length_append,List.length_cons,List.length_nil];omega,by simp only [List.length_append,List.length_cons,List.length_nil];omega,by simp only [List.length_append,List.length_cons,List.length_nil];omega⟩
   ·have d2:decide ((i:Int).tmod 3=2)=false:=decide_eq_false (by rw [Int.tmod_eq_emod_of_nonneg (by omega)];omega)
    cases a with
    | false =>
     have hadd:s.add i false=⟨s.slots++[64],(s.code++[⟨41,((3+i:Nat):Int),0,0,1,[]⟩]),s.l++[1,((3+i:Nat):Int),1],s.ready⟩:=by
      unfold Sel.add;rw [if_neg (fun q=>c2 q.1)];simp
     simp -implicitDefEqProofs (disch:=first|exact dz _|fail) only [↓AM.R0,AM.R1,AM.R2,qA,qB,qC,qD,qE,↓reduceIte,qG,qH,qI,y1,y2,y7,y8,y9,y10,y26,y27,y28,d2,cc,w3,AM.a_buildSlice,List.range,List.range.loop,List.getD_cons_zero,List.getD_cons_succ,Nat.mod_one,Nat.reduceMod,Nat.reduceMul]
     refine AM.opI_of (V6.code.app1 (bytes:=64) (by show (s.code.length+1)*64≤_;omega) (a:=⟨41,((3+i:Nat):Int),0,0,1,[]⟩) (row:=[.int .i64 41,.int .i64 ((3+i:Nat):Int),.int .i64 0,.int .i64 0,.int .u64 1,.nils]) rfl rfl ⟨by show (1:Nat)≤_;omega,_,rfl,.inl ⟨rfl,rfl⟩⟩ fun cv' h7 B' R7 f7=>?_)
     have V7:=V6.setCode f7 R7
     have cc7:=R7.cells.2
     simp -implicitDefEqProofs (disch:=first|exact dz _|fail) only [↓AM.R0,AM.R1,AM.R2,qA,qB,qC,qD,qE,↓reduceIte,qG,qH,qI,y1,y2,y7,y8,y9,y10,y26,y27,y28,cc7,cl,w3,AM.a_buildSlice,List.range,List.range.loop,List.getD_cons_zero,List.getD_cons_succ,Nat.mod_one,Nat.reduceMod,Nat.reduceMul]
     refine AM.opI_of (SlOf.app (bytes:=8) (enc:=encK) (V7.tmp (HFrame.pushTmp (HFrame.refl (by simp)) _)).l (SlRd.lit (l:=[1,((3+i:Nat):Int),1]) (AHeap.get_push_same _ _) (fun _=>rfl) rfl (Nat.lt_succ_self _)) (fun _=>rfl) (fun _=>rfl) (by simp only [List.length_cons,List.length_nil];omega) fun lv' h9 C' S9 f9=>?_)
     have V9:=SelV.setL (V7.tmp (HFrame.pushTmp (HFrame.refl (by simp)) _)) f9 S9
     have cl9:=SlRd.cl S9.rd
     simp -implicitDefEqProofs (disch:=first|exact dz _|fail) only [↓AM.R0,AM.R1,AM.R2,qA,qB,qC,qD,qE,↓reduceIte,qG,qH,qI,y1,y2,y7,y8,y9,y10,y26,y27,y28,cl9,wz]
     rw [hadd] at hG
     exact ⟨k-1,by omega,i+1,_,_,_,_,_,_,_,_,_,by omega,rfl,rfl,rfl,rfl,rfl,V9,hG,by simp only [List.length_append,List.length_cons,List.length_nil];omega,by simp only [List.length_append,List.length_cons,List.length_nil];omega,by simp only [List.length_append,List.length_cons,List.length_nil];omega,by simp only [List.length_append,List.length_cons,List.length_nil];omega⟩
    | true =>
     have hadd:s.add i true=⟨s.slots++[64],(s.code++[⟨41,((3+i:Nat):Int),0,0,1,[]⟩])++[⟨1,2,0,0,10+i,[]⟩,⟨42,((3+i:Nat):Int),2,0,0,[]⟩],s.l++[1,((3+i:Nat):Int),1],s.ready++[(i:Int)]⟩:=if_neg (by simp)
     simp -implicitDefEqProofs (disch:=first|exact dz _|fail) only [↓AM.R0,AM.R1,AM.R2,qA,qB,qC,qD,qE,↓reduceIte,qG,qH,qI,y1,y2,y7,y8,y9,y10,y26,y27,y28,d2,cc,w3,AM.a_buildSlice,List.range,List.range.loop,List.getD_cons_zero,List.getD_cons_succ,Nat.mod_one,Nat.reduceMod,Nat.reduceMul]
     refine AM.opI_of (V6.code.app1 (bytes:=64) (by show (s.code.length+1)*64≤_;omega) (a:=⟨41,((3+i:Nat):Int),0,0,1,[]⟩) (row:=[.int .i64 41,.int .i64 ((3+i:Nat):Int),.int .i64 0,.int .i64 0,.int .u64 1,.nils]) rfl rfl ⟨by show (1:Nat)≤_;omega,_,rfl,.inl ⟨rfl,rfl⟩⟩ fun cv' h7 B' R7 f7=>?_)
     have V7:=V6.setCode f7 R7
     have cc7:=R7.cells.2
     simp -implicitDefEqProofs (disch:=first|exact dz _|fail) only [↓AM.R0,AM.R1,AM.R2,qA,qB,qC,qD,qE,↓reduceIte,qG,qH,qI,y1,y2,y7,y8,y9,y10,y26,y27,y28,cc7,cl,w3,w10,u10,AM.a_buildSlice,List.range,List.range.loop,List.getD_cons_zero,List.getD_cons_succ,Nat.mod_one,Nat.reduceMod,Nat.reduceMul]
     generalize hh8:(h7.push (.cells 0 false [.int .i64 1,.int .i64 2,.int .i64 0,.int .i64 0,.int .u64 ((10+i:Nat):Int),.nils,.int .i64 42,.int .i64 ((3+i:Nat):Int),.int .i64 2,.int .i64 0,.int .u64 0,.nils]))=h8
     have g8:h8.get h7.n=.cells 0 false [.int .i64 1,.int .i64 2,.int .i64 0,.int .i64 0,.int .u64 ((10+i:Nat):Int),.nils,.int .i64 42,.int .i64 ((3+i:Nat):Int),.int .i64 2,.int .i64 0,.int .u64 0,.nils]:=by rw [←hh8];exact AHeap.get_push_same _ _
     have n8:h8.n=h7.n+1:=by rw [←hh8];rfl
     have V8:=V7.tmp (h6:=h8) (by rw [←hh8];(repeat (first | with_reducible apply HFrame.pushTmp | with_reducible refine HFrame.setTmp ?_ (by omega) _ | with_reducible exact HFrame.refl (by simp))))
     clear hh8
     have R2:SlR h8 6 (InsL []) (.sl h7.n 0 0 2 6) [⟨1,2,0,0,10+i,[]⟩,⟨42,((3+i:Nat):Int),2,0,0,[]⟩]:=SlR.lit (l:=[(⟨1,2,0,0,10+i,[]⟩:PIns),⟨42,((3+i:Nat):Int),2,0,0,[]⟩]) (rows:=[[.int .i64 1,.int .i64 2,.int .i64 0,.int .i64 0,.int .u64 ((10+i:Nat):Int),.nils],[.int .i64 42,.int .i64 ((3+i:Nat):Int),.int .i64 2,.int .i64 0,.int .u64 0,.nils]]) g8 rfl (by omega) (by simp) ⟨⟨by show 10+i≤_;omega,_,rfl,.inl ⟨rfl,rfl⟩⟩,⟨by show (0:Nat)≤_;omega,_,rfl,.inl ⟨rfl,rfl⟩⟩,trivial⟩
     refine AM.opI_of (RowsOf.appR (bytes:=64) V8.code R2 (List.cons_ne_nil _ _) (fun _ _ q=>InsL.cl q) (by simp only [List.length_append,List.length_cons,List.length_nil];omega) fun cv8 h10 B8 R8 f8=>?_)
     have V10:=V8.setCode f8 R8
     have cc8:=R8.cells.2
     have cr8:=SlRd.cl V10.ready.rd
     simp -implicitDefEqProofs (disch:=first|exact dz _|fail) only [↓AM.R0,AM.R1,AM.R2,qA,qB,qC,qD,qE,↓reduceIte,qG,qH,qI,y1,y2,y7,y8,y9,y10,y26,y27,y28,cc8,cr8,cr]
     refine AM.opI_of (SlOf.app1 (bytes:=8) (enc:=encK) V10.ready (fun _=>rfl) (fun _=>rfl) (by show (s.ready.length+1)*8≤_;omega) (i:Int) fun rv' h11 D' S11 f11=>?_)
     have V11:=V10.setReady f11 S11
     have cr11:=SlRd.cl S11.rd
     simp -implicitDefEqProofs (disch:=first|exact dz _|fail) only [↓AM.R0,AM.R1,AM.R2,qA,qB,qC,qD,qE,↓reduceIte,qG,qH,qI,y1,y2,y7,y8,y9,y10,y26,y27,y28,cr11,cl,w3,AM.a_buildSlice,List.range,List.range.loop,List.getD_cons_zero,List.getD_cons_succ,Nat.mod_one,Nat.reduceMod,Nat.reduceMul]
     refine AM.opI_of (SlOf.app (bytes:=8) (enc:=encK) (V11.tmp (HFrame.pushTmp (HFrame.refl (by simp)) _)).l (SlRd.lit (l:=[1,((3+i:Nat):Int),1]) (AHeap.get_push_same _ _) (fun _=>rfl) rfl (Nat.lt_succ_self _)) (fun _=>rfl) (fun _=>rfl) (by simp only [List.length_cons,List.length_nil];omega) fun lv' h9 C' S9 f9=>?_)
     have V9:=SelV.setL (V11.tmp (HFrame.pushTmp (HFrame.refl (by simp)) _)) f9 S9
     have cl9:=SlRd.cl S9.rd
     simp -implicitDefEqProofs (disch:=first|exact dz _|fail) only [↓AM.R0,AM.R1,AM.R2,qA,qB,qC,qD,qE,↓reduceIte,qG,qH,qI,y1,y2,y7,y8,y9,y10,y26,y27,y28,cl9,wz]
     rw [hadd] at hG
     exact ⟨k-1,by omega,i+1,_,_,_,_,_,_,_,_,_,by omega,rfl,rfl,rfl,rfl,rfl,V9,hG,by simp only [List.length_append,List.length_cons,List.length_nil];omega,by simp only [List.length_append,List.length_cons,List.length_nil];omega,by simp only [List.length_append,List.length_cons,List.length_nil];omega,by simp only [List.length_append,List.length_cons,List.length_nil];omega⟩
  ·have d1:decide ((i:Int)<fl.length)=false:=decide_eq_false c1
   simp -implicitDefEqProofs (disch:=first|exact dz _|fail) only [↓AM.R0,AM.R1,AM.R2,qA,qB,qC,qD,qE,↓reduceIte,qG,qH,qI,y1,y2,y7,y8,y9,y10,y26,y27,y28,d1]
   have ei:fl.drop i=[]:=List.drop_of_length_le (by omega)
   rw [ei] at hG
   have hG:s=selG 0 fl sel0:=hG
   obtain ⟨o,ho⟩:∃ o:Int,o=if b then 1 else 0:=⟨_,rfl⟩
   have cl:=SlRd.cl V.l.rd
   have cs:=SlRd.cl V.slots.rd
   have cr:=SlRd.cl V.ready.rd
   have cc:=V.code.cells.2
   cases b
   ·simp -implicitDefEqProofs (disch:=first|exact dz _|fail) only [↓AM.R0,AM.R1,AM.R2,qA,qB,qC,qD,qE,↓reduceIte,qG,qH,qI,y1,y2,y7,y8,y9,y10,y26,y27,y28,cl,cells1 cl,cc,AM.a_buildSlice,List.range,List.range.loop,List.getD_cons_zero,List.getD_cons_succ,Nat.mod_one,Nat.reduceMod,Nat.reduceMul]
    generalize hh6:(h5.push (.cells 0 false [.int .i64 45,.int .i64 0,.int .i64 0,.int .i64 0,.int .u64 0,lv,.int .i64 48,.int .i64 0,.int .i64 0,.int .i64 0,.int .u64 0,.nils,.int .i64 48,.int .i64 1,.int .i64 0,.int .i64 0,.int .u64 0,.nils,.int .i64 36,.int .i64 0,.int .i64 0,.int .i64 0,.int .u64 0,.nils]))=h6
    have g6:h6.get h5.n=.cells 0 false [.int .i64 45,.int .i64 0,.int .i64 0,.int .i64 0,.int .u64 0,lv,.int .i64 48,.int .i64 0,.int .i64 0,.int .i64 0,.int .u64 0,.nils,.int .i64 48,.int .i64 1,.int .i64 0,.int .i64 0,.int .u64 0,.nils,.int .i64 36,.int .i64 0,.int .i64 0,.int .i64 0,.int .u64 0,.nils]:=by rw [←hh6];exact AHeap.get_push_same _ _
    have n6:h6.n=h5.n+1:=by rw [←hh6];rfl
    have V6:=V.tmp (h6:=h6) (by rw [←hh6];(repeat (first | with_reducible apply HFrame.pushTmp | with_reducible refine HFrame.setTmp ?_ (by omega) _ | with_reducible exact HFrame.refl (by simp))))
    clear hh6
    have R2:SlR h6 6 (InsS s.l 0 lv) (.sl h5.n 0 0 4 6) [⟨45,0,0,0,0,s.l⟩,⟨48,0,0,0,0,[]⟩,⟨48,1,0,0,0,[]⟩,⟨36,0,0,0,0,[]⟩]:=SlR.lit (l:=[(⟨45,0,0,0,0,s.l⟩:PIns),⟨48,0,0,0,0,[]⟩,⟨48,1,0,0,0,[]⟩,⟨36,0,0,0,0,[]⟩]) (rows:=[[.int .i64 45,.int .i64 0,.int .i64 0,.int .i64 0,.int .u64 0,lv],[.int .i64 48,.int .i64 0,.int .i64 0,.int .i64 0,.int .u64 0,.nils],[.int .i64 48,.int .i64 1,.int .i64 0,.int .i64 0,.int .u64 0,.nils],[.int .i64 36,.int .i64 0,.int .i64 0,.int .i64 0,.int .u64 0,.nils]]) g6 rfl (by omega) (by simp) ⟨.inr ⟨rfl,rfl⟩,.inl ⟨by show (0:Nat)≤_;omega,_,rfl,.inl ⟨rfl,rfl⟩⟩,.inl ⟨by show (0:Nat)≤_;omega,_,rfl,.inl ⟨rfl,rfl⟩⟩,.inl ⟨by show (0:Nat)≤_;omega,_,rfl,.inl ⟨rfl,rfl⟩⟩,trivial⟩
    refine AM.opI_of (RowsOf.appR (bytes:=64) (V6.code.monoR (R':=InsS s.l 0 lv) fun _ _ q=>.inl q) R2 (List.cons_ne_nil _ _) (fun _ _ q=>InsS.cl cl q) (by simp only [List.length_cons,List.length_nil];omega) fun cv' h7 B' R7 f7=>?_)
    have cc7:=R7.cells.2
    simp -implicitDefEqProofs (disch:=first|exact dz _|fail) only [↓AM.R0,AM.R1,AM.R2,qA,qB,qC,qD,qE,↓reduceIte,qG,qH,qI,y1,y2,y7,y8,y9,y10,y26,y27,y28,cs,cells1 cs,cc7,cells1 cc7,AM.a_buildSlice,List.range,List.range.loop,List.getD_cons_zero,List.getD_cons_succ,Nat.mod_one,Nat.reduceMod,Nat.reduceMul]
    have nb7:=f7.n
    have sS:=V6.slots.frame (h':=h7) nb7 fun j hj=>f7.get j (V6.slots.lt j hj) fun q=>(V6.ab j hj).1 q
    have sL:=V6.l.frame (h':=h7) nb7 fun j hj=>f7.get j (V6.l.lt j hj) fun q=>(V6.bc j q).1 hj
    have sD:=V6.ready.frame (h':=h7) nb7 fun j hj=>f7.get j (V6.ready.lt j hj) fun q=>(V6.bc j q).2 hj
    have n7:h.n≤h7.n:=by have:=V6.get.1;omega
    have k7:∀ j,j<h.n→h7.get j=h.get j:=fun j hj=>(f7.get j (by have:=V6.get.1;omega) fun q=>by have:=V6.new j (by simp [q]);omega).trans (V6.get.2.2 j hj)
    generalize hh8:(h7.push (.cells 0 false [.int .i64 0,sv,.nils,cv']))=h8
    have g8:h8.get h7.n=.cells 0 false [.int .i64 0,sv,.nils,cv']:=by rw [←hh8];exact AHeap.get_push_same _ _
    have n8:h8.n=h7.n+1:=by rw [←hh8];rfl
    have f8:HFrame h7 h8 [] []:=by rw [←hh8];(repeat (first | with_reducible apply HFrame.pushTmp | with_reducible refine HFrame.setTmp ?_ (by omega) _ | with_reducible exact HFrame.refl (by simp)))
    clear hh8
    have sS8:=sS.frame f8.n fun j hj=>f8.get j (sS.lt j hj) (by simp)
    have sL8:=sL.frame f8.n fun j hj=>f8.get j (sL.lt j hj) (by simp)
    have sD8:=sD.frame f8.n fun j hj=>f8.get j (sD.lt j hj) (by simp)
    have rC8:SlR h8 6 (InsR h8) cv' (s.code++[⟨45,0,0,0,0,s.l⟩,⟨48,0,0,0,0,[]⟩,⟨48,1,0,0,0,[]⟩,⟨36,0,0,0,0,[]⟩]):=R7.slR.mono (fun _ _ q=>InsS.ins (.inl sL8.rd) q) f8.n fun j hj=>f8.get j hj (by simp)
    have RP:ProgR h8 (pSel s false) [.nils,.nils,.sl h7.n 0 0 1 4]:=⟨_,_,_,rfl,.inl ⟨rfl,rfl⟩,SlIn.nilI,SlR.lit (l:=[(⟨0,s.slots,[],s.code++[⟨45,0,0,0,0,s.l⟩,⟨48,0,0,0,0,[]⟩,⟨48,1,0,0,0,[]⟩,⟨36,0,0,0,0,[]⟩]⟩:PFunc)]) (rows:=[[.int .i64 0,sv,.nils,cv']]) g8 rfl (by omega) (by simp) ⟨⟨_,_,_,rfl,.inl sS8.rd,SlIn.nilI,rC8⟩,trivial⟩⟩
    have hrd:∀ a,a∈s.ready→0≤a∧a<6:=fun a ha=>by
     rw [hG] at ha
     have:=sel_ready fl 0 sel0 (fun _ q=>nomatch q) a ha
     omega
    obtain ⟨gP,d0,RR,k0,k1,k2⟩:=selRun fl (by omega) false hc.1
    rw [←hG] at gP k0 k2
    obtain ⟨q1,q2,q3⟩:=goodP_get gP
    refine AM.callI_of (newOk RP q1 q2 q3 k0) ?_
    rintro r h9 ⟨γ,rfl,P9,f9,hK⟩
    have n9:=f9.n
    have F10:=(f9.pushTmp (.cells 0 false [.int .i64 0,.int .i64 0,.int .i64 0])).setTmp (i:=h9.n) (by omega) (.cells 0 false [.int .i64 0,.int .i64 0,.int .i64 0])
    have P10:=P9.tmp (Chg.tmp h9 γ.K (.cells 0 false [.int .i64 0,.int .i64 0,.int .i64 0]) (.cells 0 false [.int .i64 0,.int .i64 0,.int .i64 0]))
    have g10:((h9.push (.cells 0 false [.int .i64 0,.int .i64 0,.int .i64 0])).set h9.n (.cells 0 false [.int .i64 0,.int .i64 0,.int .i64 0])).get h9.n=.cells 0 false [.int .i64 0,.int .i64 0,.int .i64 0]:=AHeap.get_set_same _ _ _
    have n10:((h9.push (.cells 0 false [.int .i64 0,.int .i64 0,.int .i64 0])).set h9.n (.cells 0 false [.int .i64 0,.int .i64 0,.int .i64 0])).n=h9.n+1:=rfl
    simp -implicitDefEqProofs (disch:=first|exact dz _|fail) only [↓AM.R0,AM.R1,AM.R2,qA,qB,qC,qD,qE,↓reduceIte,qG,qH,qI,y1,y2,y7,y8,y9,y10,y26,y27,y28,cr]
    generalize ((h9.push (.cells 0 false [.int .i64 0,.int .i64 0,.int .i64 0])).set h9.n (.cells 0 false [.int .i64 0,.int .i64 0,.int .i64 0]))=h10 at *
    refine AM.callI_of (awake h10) ?_
    rintro r h11 ⟨rfl,f11⟩
    have g11:=(f11.get _ (by omega) (by simp)).trans g10
    have P11:=P10.tmp (Chg.ofH f11)
    have F11:=F10.trans f11
    have nn11:=f11.n
    simp -implicitDefEqProofs (disch:=first|exact dz _|fail) only [↓AM.R0,AM.R1,AM.R2,qA,qB,qC,qD,qE,↓reduceIte,qG,qH,qI,y1,y2,y7,y8,y9,y10,y26,y27,y28,cr,g11]
    refine AM.loopI_of (fun k e h12=>∃ (z:Nat) (γ12:GI) (R12:Run),k+z=60∧e.val 1=.int .u64 c∧e.val 2=.bool false∧e.val 10=rv∧e.val 14=.ptr γ.d 0 0∧e.val 16=.int .i64 z∧RunP h12 γ12 R12∧Nxt h11 h12 γ γ12∧runN k c R12=some RR) 60 ?_ ?_
    ·refine ⟨0,γ,d0,by omega,?_,?_,?_,?_,?_,P11,Nxt.refl _ _,k1⟩<;>(simp -implicitDefEqProofs (disch:=first|exact dz _|fail) only [↓AM.R0,AM.R1,AM.R2,qA,qB,qC,qD,qE,↓reduceIte,qG,qH,qI,y1,y2,y10])<;>rfl
    ·rintro k e h12 ⟨z,γ12,R12,hkz,u1,u2,u10,u14,u16,P12,N12,hr⟩
     have sE:=endedG P12
     rw [N12.d] at sE
     by_cases c3:(z:Int)<60
     ·have d3:decide ((z:Int)<60)=true:=decide_eq_true c3
      have wz:IntKind.i64.wrap ((z:Int)+1)=((z+1:Nat):Int):=(wrap64 (by omega) (by omega)).trans (by omega)
      simp -implicitDefEqProofs (disch:=first|exact dz _|fail) only [↓AM.R0,AM.R1,AM.R2,qA,qB,qC,qD,qE,↓reduceIte,qG,qH,qI,u1,u2,u10,u14,u16,d3]
      refine AM.callI_of sE ?_
      rintro r h13 ⟨rfl,rfl⟩
      obtain ⟨k',rfl⟩:∃ k',k=k'+1:=⟨k-1,by omega⟩
      unfold runN at hr
      cases hE:R12.ended with
      | false =>
       rw [hE] at hr
       simp only [Bool.false_eq_true,if_false] at hr
       cases hst:R12.step 0 c with
       | none=>rw [hst] at hr;cases hr
       | some x =>
        obtain ⟨e5,R13⟩:=x
        rw [hst] at hr
        simp only [Option.bind_some] at hr
        simp -implicitDefEqProofs (disch:=first|exact dz _|fail) only [↓AM.R0,AM.R1,AM.R2,qA,qB,qC,qD,qE,↓reduceIte,qG,qH,qI,u1,u2,u10,u14,u16,Bool.not_false]
        have sS:=step P12 hst
        rw [N12.d] at sS
        refine AM.callI_of sS ?_
        rintro r h13 ⟨rfl,γ13,P13,N13⟩
        simp -implicitDefEqProofs (disch:=first|exact dz _|fail) only [↓AM.R0,AM.R1,AM.R2,qA,qB,qC,qD,qE,↓reduceIte,qG,qH,qI,u1,u2,u10,u14,u16,wz]
        exact ⟨k',by omega,z+1,γ13,R13,by omega,rfl,P13,N12.trans N13,hr⟩
      | true =>
       rw [hE] at hr
       simp only [if_true] at hr
       cases hr
       simp -implicitDefEqProofs (disch:=first|exact dz _|fail) only [↓AM.R0,AM.R1,AM.R2,qA,qB,qC,qD,qE,↓reduceIte,qG,qH,qI,u1,u2,u10,u14,u16,Bool.not_true]
       have FX:=HFrame.nxt F11 N12 hK
       have sT:=traceG P12 (by rw [k2];exact wSel_len _ _ _)
       rw [N12.d,k2] at sT
       refine AM.callI_of sT ?_
       rintro tv hT ⟨FT,sTT,fT⟩
       have cT:=SlRd.cl sTT.rd
       have DD:=sD8.rd.keep (FX.trans (hfNon fT))
       have lenR:=DD.len
       by_cases c5:(0:Int)<s.ready.length
       ·have d5:decide ((0:Int)<s.ready.length)=true:=decide_eq_true c5
        obtain ⟨q,a,hq,ha,hq0,ha0⟩:=sel_at hc.1 hrd (by omega:0<s.ready.length)
        obtain ⟨id1,g1,off1,vs1,ro1,t1,t2,t3,t4⟩:=SlRd.ix1 (enc:=fun n=>.int .i64 n) DD ha .u64
        have w5:IntKind.u64.wrap (s.ready.length:Int)=(s.ready.length:Int):=wrapU64 (by omega) (by omega)
        have w6:IntKind.u64.wrap a=a:=wrapU64 (by omega) (by omega)
        have w7:IntKind.i64.wrap (10+a)=10+a:=wrap_i64 (by omega) (by omega)
        have w8:IntKind.u64.wrap (10+a)=10+a:=wrapU64 (by omega) (by omega)
        simp -implicitDefEqProofs (disch:=first|exact dz _|fail) only [↓AM.R0,AM.R1,AM.R2,qA,qB,qC,qD,qE,↓reduceIte,qG,qH,qI,u1,u2,u10,u14,u16,cT,lenR,d5,w5,←hq,t1,t2,t4,w6,w7,w8,AM.a_buildSlice,List.range,List.range.loop,List.getD_cons_zero,List.getD_cons_succ,Nat.mod_one,Nat.reduceMod,Nat.reduceMul]
        refine AM.callI_of (sameLit sTT.rd [(1,0,a),(1,0,10+a),(3,0,0)] rfl (wSel_len _ _ _)) ?_
        rintro r hZ ⟨rfl,fZ⟩
        simp -implicitDefEqProofs (disch:=first|exact dz _|fail) only [↓AM.R0,AM.R1,AM.R2,qA,qB,qC,qD,qE,↓reduceIte,qG,qH,qI]
        subst hQ
        have e7:wSel s.ready false c=[(1,0,a),(1,0,10+a),(3,0,0)]:=by unfold wSel;rw [if_pos (by omega),hq0,ha0.1]
        exact congrArg AVal.bool (decide_eq_true e7)
       ·have d5:decide ((0:Int)<s.ready.length)=false:=decide_eq_false c5
        simp -implicitDefEqProofs (disch:=first|exact dz _|fail) only [↓AM.R0,AM.R1,AM.R2,qA,qB,qC,qD,qE,↓reduceIte,qG,qH,qI,u1,u2,u10,u14,u16,cT,lenR,d5,AM.a_buildSlice,List.range,List.range.loop,List.getD_cons_zero,List.getD_cons_succ,Nat.mod_one,Nat.reduceMod,Nat.reduceMul]
        refine AM.callI_of (sameLit sTT.rd [(5,0,0)] rfl (wSel_len _ _ _)) ?_
        rintro r hZ ⟨rfl,fZ⟩
        simp -implicitDefEqProofs (disch:=first|exact dz _|fail) only [↓AM.R0,AM.R1,AM.R2,qA,qB,qC,qD,qE,↓reduceIte,qG,qH,qI]
        subst hQ
        have e7:wSel s.ready false c=[(5,0,0)]:=by unfold wSel;rw [if_neg (by omega)];rfl
        exact congrArg AVal.bool (decide_eq_true e7)
     ·have d3:decide ((z:Int)<60)=false:=decide_eq_false c3
      simp -implicitDefEqProofs (disch:=first|exact dz _|fail) only [↓AM.R0,AM.R1,AM.R2,qA,qB,qC,qD,qE,↓reduceIte,qG,qH,qI,u1,u2,u10,u14,u16,d3]
      have:k=0:=by omega
      subst this
      cases hr
      have FX:=HFrame.nxt F11 N12 hK
      have sT:=traceG P12 (by rw [k2];exact wSel_len _ _ _)
      rw [N12.d,k2] at sT
      refine AM.callI_of sT ?_
      rintro tv hT ⟨FT,sTT,fT⟩
      have cT:=SlRd.cl sTT.rd
      have DD:=sD8.rd.keep (FX.trans (hfNon fT))
      have lenR:=DD.len
      by_cases c5:(0:Int)<s.ready.length
      ·have d5:decide ((0:Int)<s.ready.length)=true:=decide_eq_true c5
       obtain ⟨q,a,hq,ha,hq0,ha0⟩:=sel_at hc.1 hrd (by omega:0<s.ready.length)
       obtain ⟨id1,g1,off1,vs1,ro1,t1,t2,t3,t4⟩:=SlRd.ix1 (enc:=fun n=>.int .i64 n) DD ha .u64
       have w5:IntKind.u64.wrap (s.ready.length:Int)=(s.ready.length:Int):=wrapU64 (by omega) (by omega)
       have w6:IntKind.u64.wrap a=a:=wrapU64 (by omega) (by omega)
       have w7:IntKind.i64.wrap (10+a)=10+a:=wrap_i64 (by omega) (by omega)
       have w8:IntKind.u64.wrap (10+a)=10+a:=wrapU64 (by omega) (by omega)
       simp -implicitDefEqProofs (disch:=first|exact dz _|fail) only [↓AM.R0,AM.R1,AM.R2,qA,qB,qC,qD,qE,↓reduceIte,qG,qH,qI,u1,u2,u10,u14,u16,cT,lenR,d5,w5,←hq,t1,t2,t4,w6,w7,w8,AM.a_buildSlice,List.range,List.range.loop,List.getD_cons_zero,List.getD_cons_succ,Nat.mod_one,Nat.reduceMod,Nat.reduceMul]
       refine AM.callI_of (sameLit sTT.rd [(1,0,a),(1,0,10+a),(3,0,0)] rfl (wSel_len _ _ _)) ?_
       rintro r hZ ⟨rfl,fZ⟩
       simp -implicitDefEqProofs (disch:=first|exact dz _|fail) only [↓AM.R0,AM.R1,AM.R2,qA,qB,qC,qD,qE,↓reduceIte,qG,qH,qI]
       subst hQ
       have e7:wSel s.ready false c=[(1,0,a),(1,0,10+a),(3,0,0)]:=by unfold wSel;rw [if_pos (by omega),hq0,ha0.1]
       exact congrArg AVal.bool (decide_eq_true e7)
      ·have d5:decide ((0:Int)<s.ready.length)=false:=decide_eq_false c5
       simp -implicitDefEqProofs (disch:=first|exact dz _|fail) only [↓AM.R0,AM.R1,AM.R2,qA,qB,qC,qD,qE,↓reduceIte,qG,qH,qI,u1,u2,u10,u14,u16,cT,lenR,d5,AM.a_buildSlice,List.range,List.range.loop,List.getD_cons_zero,List.getD_cons_succ,Nat.mod_one,Nat.reduceMod,Nat.reduceMul]
       refine AM.callI_of (sameLit sTT.rd [(5,0,0)] rfl (wSel_len _ _ _)) ?_
       rintro r hZ ⟨rfl,fZ⟩
       simp -implicitDefEqProofs (disch:=first|exact dz _|fail) only [↓AM.R0,AM.R1,AM.R2,qA,qB,qC,qD,qE,↓reduceIte,qG,qH,qI]
       subst hQ
       have e7:wSel s.ready false c=[(5,0,0)]:=by unfold wSel;rw [if_neg (by omega)];rfl
       exact congrArg AVal.bool (decide_eq_true e7)
   ·simp -implicitDefEqProofs (disch:=first|exact dz _|fail) only [↓AM.R0,AM.R1,AM.R2,qA,qB,qC,qD,qE,↓reduceIte,qG,qH,qI,y1,y2,y7,y8,y9,y10,y26,y27,y28,cl,cells1 cl,cc,AM.a_buildSlice,List.range,List.range.loop,List.getD_cons_zero,List.getD_cons_succ,Nat.mod_one,Nat.reduceMod,Nat.reduceMul]
    generalize hh6:(h5.push (.cells 0 false [.int .i64 45,.int .i64 0,.int .i64 1,.int .i64 0,.int .u64 0,lv,.int .i64 48,.int .i64 0,.int .i64 0,.int .i64 0,.int .u64 0,.nils,.int .i64 48,.int .i64 1,.int .i64 0,.int .i64 0,.int .u64 0,.nils,.int .i64 36,.int .i64 0,.int .i64 0,.int .i64 0,.int .u64 0,.nils]))=h6
    have g6:h6.get h5.n=.cells 0 false [.int .i64 45,.int .i64 0,.int .i64 1,.int .i64 0,.int .u64 0,lv,.int .i64 48,.int .i64 0,.int .i64 0,.int .i64 0,.int .u64 0,.nils,.int .i64 48,.int .i64 1,.int .i64 0,.int .i64 0,.int .u64 0,.nils,.int .i64 36,.int .i64 0,.int .i64 0,.int .i64 0,.int .u64 0,.nils]:=by rw [←hh6];exact AHeap.get_push_same _ _
    have n6:h6.n=h5.n+1:=by rw [←hh6];rfl
    have V6:=V.tmp (h6:=h6) (by rw [←hh6];(repeat (first | with_reducible apply HFrame.pushTmp | with_reducible refine HFrame.setTmp ?_ (by omega) _ | with_reducible exact HFrame.refl (by simp))))
    clear hh6
    have R2:SlR h6 6 (InsS s.l 1 lv) (.sl h5.n 0 0 4 6) [⟨45,0,1,0,0,s.l⟩,⟨48,0,0,0,0,[]⟩,⟨48,1,0,0,0,[]⟩,⟨36,0,0,0,0,[]⟩]:=SlR.lit (l:=[(⟨45,0,1,0,0,s.l⟩:PIns),⟨48,0,0,0,0,[]⟩,⟨48,1,0,0,0,[]⟩,⟨36,0,0,0,0,[]⟩]) (rows:=[[.int .i64 45,.int .i64 0,.int .i64 1,.int .i64 0,.int .u64 0,lv],[.int .i64 48,.int .i64 0,.int .i64 0,.int .i64 0,.int .u64 0,.nils],[.int .i64 48,.int .i64 1,.int .i64 0,.int .i64 0,.int .u64 0,.nils],[.int .i64 36,.int .i64 0,.int .i64 0,.int .i64 0,.int .u64 0,.nils]]) g6 rfl (by omega) (by simp) ⟨.inr ⟨rfl,rfl⟩,.inl ⟨by show (0:Nat)≤_;omega,_,rfl,.inl ⟨rfl,rfl⟩⟩,.inl ⟨by show (0:Nat)≤_;omega,_,rfl,.inl ⟨rfl,rfl⟩⟩,.inl ⟨by show (0:Nat)≤_;omega,_,rfl,.inl ⟨rfl,rfl⟩⟩,trivial⟩
    refine AM.opI_of (RowsOf.appR (bytes:=64) (V6.code.monoR (R':=InsS s.l 1 lv) fun _ _ q=>.inl q) R2 (List.cons_ne_nil _ _) (fun _ _ q=>InsS.cl cl q) (by simp only [List.length_cons,List.length_nil];omega) fun cv' h7 B' R7 f7=>?_)
    have cc7:=R7.cells.2
    simp -implicitDefEqProofs (disch:=first|exact dz _|fail) only [↓AM.R0,AM.R1,AM.R2,qA,qB,qC,qD,qE,↓reduceIte,qG,qH,qI,y1,y2,y7,y8,y9,y10,y26,y27,y28,cs,cells1 cs,cc7,cells1 cc7,AM.a_buildSlice,List.range,List.range.loop,List.getD_cons_zero,List.getD_cons_succ,Nat.mod_one,Nat.reduceMod,Nat.reduceMul]
    have nb7:=f7.n
    have sS:=V6.slots.frame (h':=h7) nb7 fun j hj=>f7.get j (V6.slots.lt j hj) fun q=>(V6.ab j hj).1 q
    have sL:=V6.l.frame (h':=h7) nb7 fun j hj=>f7.get j (V6.l.lt j hj) fun q=>(V6.bc j q).1 hj
    have sD:=V6.ready.frame (h':=h7) nb7 fun j hj=>f7.get j (V6.ready.lt j hj) fun q=>(V6.bc j q).2 hj
    have n7:h.n≤h7.n:=by have:=V6.get.1;omega
    have k7:∀ j,j<h.n→h7.get j=h.get j:=fun j hj=>(f7.get j (by have:=V6.get.1;omega) fun q=>by have:=V6.new j (by simp [q]);omega).trans (V6.get.2.2 j hj)
    generalize hh8:(h7.push (.cells 0 false [.int .i64 0,sv,.nils,cv']))=h8
    have g8:h8.get h7.n=.cells 0 false [.int .i64 0,sv,.nils,cv']:=by rw [←hh8];exact AHeap.get_push_same _ _
    have n8:h8.n=h7.n+1:=by rw [←hh8];rfl
    have f8:HFrame h7 h8 [] []:=by rw [←hh8];(repeat (first | with_reducible apply HFrame.pushTmp | with_reducible refine HFrame.setTmp ?_ (by omega) _ | with_reducible exact HFrame.refl (by simp)))
    clear hh8
    have sS8:=sS.frame f8.n fun j hj=>f8.get j (sS.lt j hj) (by simp)
    have sL8:=sL.frame f8.n fun j hj=>f8.get j (sL.lt j hj) (by simp)
    have sD8:=sD.frame f8.n fun j hj=>f8.get j (sD.lt j hj) (by simp)
    have rC8:SlR h8 6 (InsR h8) cv' (s.code++[⟨45,0,1,0,0,s.l⟩,⟨48,0,0,0,0,[]⟩,⟨48,1,0,0,0,[]⟩,⟨36,0,0,0,0,[]⟩]):=R7.slR.mono (fun _ _ q=>InsS.ins (.inl sL8.rd) q) f8.n fun j hj=>f8.get j hj (by simp)
    have RP:ProgR h8 (pSel s true) [.nils,.nils,.sl h7.n 0 0 1 4]:=⟨_,_,_,rfl,.inl ⟨rfl,rfl⟩,SlIn.nilI,SlR.lit (l:=[(⟨0,s.slots,[],s.code++[⟨45,0,1,0,0,s.l⟩,⟨48,0,0,0,0,[]⟩,⟨48,1,0,0,0,[]⟩,⟨36,0,0,0,0,[]⟩]⟩:PFunc)]) (rows:=[[.int .i64 0,sv,.nils,cv']]) g8 rfl (by omega) (by simp) ⟨⟨_,_,_,rfl,.inl sS8.rd,SlIn.nilI,rC8⟩,trivial⟩⟩
    have hrd:∀ a,a∈s.ready→0≤a∧a<6:=fun a ha=>by
     rw [hG] at ha
     have:=sel_ready fl 0 sel0 (fun _ q=>nomatch q) a ha
     omega
    obtain ⟨gP,d0,RR,k0,k1,k2⟩:=selRun fl (by omega) true hc.1
    rw [←hG] at gP k0 k2
    obtain ⟨q1,q2,q3⟩:=goodP_get gP
    refine AM.callI_of (newOk RP q1 q2 q3 k0) ?_
    rintro r h9 ⟨γ,rfl,P9,f9,hK⟩
    have n9:=f9.n
    have F10:=(f9.pushTmp (.cells 0 false [.int .i64 0,.int .i64 0,.int .i64 0])).setTmp (i:=h9.n) (by omega) (.cells 0 false [.int .i64 0,.int .i64 0,.int .i64 0])
    have P10:=P9.tmp (Chg.tmp h9 γ.K (.cells 0 false [.int .i64 0,.int .i64 0,.int .i64 0]) (.cells 0 false [.int .i64 0,.int .i64 0,.int .i64 0]))
    have g10:((h9.push (.cells 0 false [.int .i64 0,.int .i64 0,.int .i64 0])).set h9.n (.cells 0 false [.int .i64 0,.int .i64 0,.int .i64 0])).get h9.n=.cells 0 false [.int .i64 0,.int .i64 0,.int .i64 0]:=AHeap.get_set_same _ _ _
    have n10:((h9.push (.cells 0 false [.int .i64 0,.int .i64 0,.int .i64 0])).set h9.n (.cells 0 false [.int .i64 0,.int .i64 0,.int .i64 0])).n=h9.n+1:=rfl
    simp -implicitDefEqProofs (disch:=first|exact dz _|fail) only [↓AM.R0,AM.R1,AM.R2,qA,qB,qC,qD,qE,↓reduceIte,qG,qH,qI,y1,y2,y7,y8,y9,y10,y26,y27,y28,cr]
    generalize ((h9.push (.cells 0 false [.int .i64 0,.int .i64 0,.int .i64 0])).set h9.n (.cells 0 false [.int .i64 0,.int .i64 0,.int .i64 0]))=h10 at *
    refine AM.callI_of (awake h10) ?_
    rintro r h11 ⟨rfl,f11⟩
    have g11:=(f11.get _ (by omega) (by simp)).trans g10
    have P11:=P10.tmp (Chg.ofH f11)
    have F11:=F10.trans f11
    have nn11:=f11.n
    simp -implicitDefEqProofs (disch:=first|exact dz _|fail) only [↓AM.R0,AM.R1,AM.R2,qA,qB,qC,qD,qE,↓reduceIte,qG,qH,qI,y1,y2,y7,y8,y9,y10,y26,y27,y28,cr,g11]
    refine AM.loopI_of (fun k e h12=>∃ (z:Nat) (γ12:GI) (R12:Run),k+z=60∧e.val 1=.int .u64 c∧e.val 2=.bool true∧e.val 10=rv∧e.val 14=.ptr γ.d 0 0∧e.val 16=.int .i64 z∧RunP h12 γ12 R12∧Nxt h11 h12 γ γ12∧runN k c R12=some RR) 60 ?_ ?_
    ·refine ⟨0,γ,d0,by omega,?_,?_,?_,?_,?_,P11,Nxt.refl _ _,k1⟩<;>(simp -implicitDefEqProofs (disch:=first|exact dz _|fail) only [↓AM.R0,AM.R1,AM.R2,qA,qB,qC,qD,qE,↓reduceIte,qG,qH,qI,y1,y2,y10])<;>rfl
    ·rintro k e h12 ⟨z,γ12,R12,hkz,u1,u2,u10,u14,u16,P12,N12,hr⟩
     have sE:=endedG P12
     rw [N12.d] at sE
     by_cases c3:(z:Int)<60
     ·have d3:decide ((z:Int)<60)=true:=decide_eq_true c3
      have wz:IntKind.i64.wrap ((z:Int)+1)=((z+1:Nat):Int):=(wrap64 (by omega) (by omega)).trans (by omega)
      simp -implicitDefEqProofs (disch:=first|exact dz _|fail) only [↓AM.R0,AM.R1,AM.R2,qA,qB,qC,qD,qE,↓reduceIte,qG,qH,qI,u1,u2,u10,u14,u16,d3]
      refine AM.callI_of sE ?_
      rintro r h13 ⟨rfl,rfl⟩
      obtain ⟨k',rfl⟩:∃ k',k=k'+1:=⟨k-1,by omega⟩
      unfold runN at hr
      cases hE:R12.ended with
      | false =>
       rw [hE] at hr
       simp only [Bool.false_eq_true,if_false] at hr
       cases hst:R12.step 0 c with
       | none=>rw [hst] at hr;cases hr
       | some x =>
        obtain ⟨e5,R13⟩:=x
        rw [hst] at hr
        simp only [Option.bind_some] at hr
        simp -implicitDefEqProofs (disch:=first|exact dz _|fail) only [↓AM.R0,AM.R1,AM.R2,qA,qB,qC,qD,qE,↓reduceIte,qG,qH,qI,u1,u2,u10,u14,u16,Bool.not_false]
        have sS:=step P12 hst
        rw [N12.d] at sS
        refine AM.callI_of sS ?_
        rintro r h13 ⟨rfl,γ13,P13,N13⟩
        simp -implicitDefEqProofs (disch:=first|exact dz _|fail) only [↓AM.R0,AM.R1,AM.R2,qA,qB,qC,qD,qE,↓reduceIte,qG,qH,qI,u1,u2,u10,u14,u16,wz]
        exact ⟨k',by omega,z+1,γ13,R13,by omega,rfl,P13,N12.trans N13,hr⟩
      | true =>
       rw [hE] at hr
       simp only [if_true] at hr
       cases hr
       simp -implicitDefEqProofs (disch:=first|exact dz _|fail) only [↓AM.R0,AM.R1,AM.R2,qA,qB,qC,qD,qE,↓reduceIte,qG,qH,qI,u1,u2,u10,u14,u16,Bool.not_true]
       have FX:=HFrame.nxt F11 N12 hK
       have sT:=traceG P12 (by rw [k2];exact wSel_len _ _ _)
       rw [N12.d,k2] at sT
       refine AM.callI_of sT ?_
       rintro tv hT ⟨FT,sTT,fT⟩
       have cT:=SlRd.cl sTT.rd
       have DD:=sD8.rd.keep (FX.trans (hfNon fT))
       have lenR:=DD.len
       by_cases c5:(0:Int)<s.ready.length
       ·have d5:decide ((0:Int)<s.ready.length)=true:=decide_eq_true c5
        obtain ⟨q,a,hq,ha,hq0,ha0⟩:=sel_at hc.1 hrd (by omega:0<s.ready.length)
        obtain ⟨id1,g1,off1,vs1,ro1,t1,t2,t3,t4⟩:=SlRd.ix1 (enc:=fun n=>.int .i64 n) DD ha .u64
        have w5:IntKind.u64.wrap (s.ready.length:Int)=(s.ready.length:Int):=wrapU64 (by omega) (by omega)
        have w6:IntKind.u64.wrap a=a:=wrapU64 (by omega) (by omega)
        have w7:IntKind.i64.wrap (10+a)=10+a:=wrap_i64 (by omega) (by omega)
        have w8:IntKind.u64.wrap (10+a)=10+a:=wrapU64 (by omega) (by omega)
        simp -implicitDefEqProofs (disch:=first|exact dz _|fail) only [↓AM.R0,AM.R1,AM.R2,qA,qB,qC,qD,qE,↓reduceIte,qG,qH,qI,u1,u2,u10,u14,u16,cT,lenR,d5,w5,←hq,t1,t2,t4,w6,w7,w8,AM.a_buildSlice,List.range,List.range.loop,List.getD_cons_zero,List.getD_cons_succ,Nat.mod_one,Nat.reduceMod,Nat.reduceMul]
        refine AM.callI_of (sameLit sTT.rd [(1,0,a),(1,0,10+a),(3,0,0)] rfl (wSel_len _ _ _)) ?_
        rintro r hZ ⟨rfl,fZ⟩
        simp -implicitDefEqProofs (disch:=first|exact dz _|fail) only [↓AM.R0,AM.R1,AM.R2,qA,qB,qC,qD,qE,↓reduceIte,qG,qH,qI]
        subst hQ
        have e7:wSel s.ready true c=[(1,0,a),(1,0,10+a),(3,0,0)]:=by unfold wSel;rw [if_pos (by omega),hq0,ha0.1]
        exact congrArg AVal.bool (decide_eq_true e7)
       ·have d5:decide ((0:Int)<s.ready.length)=false:=decide_eq_false c5
        simp -implicitDefEqProofs (disch:=first|exact dz _|fail) only [↓AM.R0,AM.R1,AM.R2,qA,qB,qC,qD,qE,↓reduceIte,qG,qH,qI,u1,u2,u10,u14,u16,cT,lenR,d5,AM.a_buildSlice,List.range,List.range.loop,List.getD_cons_zero,List.getD_cons_succ,Nat.mod_one,Nat.reduceMod,Nat.reduceMul]
        refine AM.callI_of (sameLit sTT.rd [(1,0,18446744073709551615),(1,0,0),(3,0,0)] rfl (wSel_len _ _ _)) ?_
        rintro r hZ ⟨rfl,fZ⟩
        simp -implicitDefEqProofs (disch:=first|exact dz _|fail) only [↓AM.R0,AM.R1,AM.R2,qA,qB,qC,qD,qE,↓reduceIte,qG,qH,qI]
        subst hQ
        have e7:wSel s.ready true c=[(1,0,18446744073709551615),(1,0,0),(3,0,0)]:=by unfold wSel;rw [if_neg (by omega)];rfl
        exact congrArg AVal.bool (decide_eq_true e7)
     ·have d3:decide ((z:Int)<60)=false:=decide_eq_false c3
      simp -implicitDefEqProofs (disch:=first|exact dz _|fail) only [↓AM.R0,AM.R1,AM.R2,qA,qB,qC,qD,qE,↓reduceIte,qG,qH,qI,u1,u2,u10,u14,u16,d3]
      have:k=0:=by omega
      subst this
      cases hr
      have FX:=HFrame.nxt F11 N12 hK
      have sT:=traceG P12 (by rw [k2];exact wSel_len _ _ _)
      rw [N12.d,k2] at sT
      refine AM.callI_of sT ?_
      rintro tv hT ⟨FT,sTT,fT⟩
      have cT:=SlRd.cl sTT.rd
      have DD:=sD8.rd.keep (FX.trans (hfNon fT))
      have lenR:=DD.len
      by_cases c5:(0:Int)<s.ready.length
      ·have d5:decide ((0:Int)<s.ready.length)=true:=decide_eq_true c5
       obtain ⟨q,a,hq,ha,hq0,ha0⟩:=sel_at hc.1 hrd (by omega:0<s.ready.length)
       obtain ⟨id1,g1,off1,vs1,ro1,t1,t2,t3,t4⟩:=SlRd.ix1 (enc:=fun n=>.int .i64 n) DD ha .u64
       have w5:IntKind.u64.wrap (s.ready.length:Int)=(s.ready.length:Int):=wrapU64 (by omega) (by omega)
       have w6:IntKind.u64.wrap a=a:=wrapU64 (by omega) (by omega)
       have w7:IntKind.i64.wrap (10+a)=10+a:=wrap_i64 (by omega) (by omega)
       have w8:IntKind.u64.wrap (10+a)=10+a:=wrapU64 (by omega) (by omega)
       simp -implicitDefEqProofs (disch:=first|exact dz _|fail) only [↓AM.R0,AM.R1,AM.R2,qA,qB,qC,qD,qE,↓reduceIte,qG,qH,qI,u1,u2,u10,u14,u16,cT,lenR,d5,w5,←hq,t1,t2,t4,w6,w7,w8,AM.a_buildSlice,List.range,List.range.loop,List.getD_cons_zero,List.getD_cons_succ,Nat.mod_one,Nat.reduceMod,Nat.reduceMul]
       refine AM.callI_of (sameLit sTT.rd [(1,0,a),(1,0,10+a),(3,0,0)] rfl (wSel_len _ _ _)) ?_
       rintro r hZ ⟨rfl,fZ⟩
       simp -implicitDefEqProofs (disch:=first|exact dz _|fail) only [↓AM.R0,AM.R1,AM.R2,qA,qB,qC,qD,qE,↓reduceIte,qG,qH,qI]
       subst hQ
       have e7:wSel s.ready true c=[(1,0,a),(1,0,10+a),(3,0,0)]:=by unfold wSel;rw [if_pos (by omega),hq0,ha0.1]
       exact congrArg AVal.bool (decide_eq_true e7)
      ·have d5:decide ((0:Int)<s.ready.length)=false:=decide_eq_false c5
       simp -implicitDefEqProofs (disch:=first|exact dz _|fail) only [↓AM.R0,AM.R1,AM.R2,qA,qB,qC,qD,qE,↓reduceIte,qG,qH,qI,u1,u2,u10,u14,u16,cT,lenR,d5,AM.a_buildSlice,List.range,List.range.loop,List.getD_cons_zero,List.getD_cons_succ,Nat.mod_one,Nat.reduceMod,Nat.reduceMul]
       refine AM.callI_of (sameLit sTT.rd [(1,0,18446744073709551615),(1,0,0),(3,0,0)] rfl (wSel_len _ _ _)) ?_
       rintro r hZ ⟨rfl,fZ⟩
       simp -implicitDefEqProofs (disch:=first|exact dz _|fail) only [↓AM.R0,AM.R1,AM.R2,qA,qB,qC,qD,qE,↓reduceIte,qG,qH,qI]
       subst hQ
       have e7:wSel s.ready true c=[(1,0,18446744073709551615),(1,0,0),(3,0,0)]:=by unfold wSel;rw [if_neg (by omega)];rfl
       exact congrArg AVal.bool (decide_eq_true e7)
end Go.Proofs.Ytnbnpjhlflcjeaa.Id