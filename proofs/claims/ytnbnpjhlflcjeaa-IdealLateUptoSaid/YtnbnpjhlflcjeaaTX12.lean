/-
 What the functions of this seat do,on the machine: lemmas for the laws.
-/
import Derived.Test.YtnbnpjhlflcjeaaTX6
import Derived.Test.YtnbnpjhlflcjeaaTX11
set_option linter.unusedSimpArgs false
set_option linter.unusedVariables false
set_option maxRecDepth 100000
attribute [local irreducible] Go.AM.wp Go.AM.wpIs Go.AM.wpTr Go.AM.opI Go.AM.gI Go.AM.cI Go.AM.trI Go.AM.callI Go.AM.fnI Go.AM.yldI Go.AM.rangeI Go.AM.rangeC Go.AM.YldP Go.AM.asgQ Go.AM.roundQ Go.AM.rangeQ Go.AM.trG Go.AM.trOp Go.AM.trCall Go.AM.seqC Go.AM.loopI
namespace Go.Proofs.Ytnbnpjhlflcjeaa.Id
open Go Go.AM Go.Proofs.Ytnbnpjhlflcjeaa.AmGT
open Nat renaming reduceAdd → qA,reduceLeDiff → qB,reduceEqDiff → qC,reduceLT → qE
open Int renaming reduceToNat → qD,reduceEq → qG,reduceLT → qH,reduceLE → qI
end Go.Proofs.Ytnbnpjhlflcjeaa.Id
namespace Go.Proofs.Ytnbnpjhlflcjeaa.Id
open Go Go.AM Go.Proofs.Ytnbnpjhlflcjeaa.AmGT
open Nat renaming reduceAdd → qA,reduceLeDiff → qB,reduceEqDiff → qC,reduceLT → qE
open Int renaming reduceToNat → qD,reduceEq → qG,reduceLT → qH,reduceLE → qI
end Go.Proofs.Ytnbnpjhlflcjeaa.Id
namespace Go.Proofs.Ytnbnpjhlflcjeaa.Id
open Go Go.AM Go.Proofs.Ytnbnpjhlflcjeaa.AmGT
open Nat renaming reduceAdd → qA,reduceLeDiff → qB,reduceEqDiff → qC,reduceLT → qE
open Int renaming reduceToNat → qD,reduceEq → qG,reduceLT → qH,reduceLE → qI
theorem RowsOf.appR {α:Type} {m:Nat} {R:α→List AVal→Prop} {h:AHeap} {v y:AVal} {l l2:List α} {F:List Nat} (s:RowsOf h m R v l F) (t:SlR h m R y l2) (hne:l2≠[]) (hc:∀ a row,R a row→row.all (·.cell)=true) {bytes:Nat} (hb:(l.length+l2.length)*bytes≤1099511627776) {k:AVal→AHeap→Prop}
  (w:∀ v' h' F',RowsOf h' m R v' (l++l2) F'→HFrame h h' F F'→k v' h'):AM.wpOp (h.app m bytes v y) k:=by
 obtain ⟨rows,s1,s2,s3⟩:=s
 obtain ⟨rows2,t1,t2,t3⟩:=SlR.rows t hc
 have t4:SlRd h m (fun r:Row m=>r.1) y rows2:=by
  rcases t1 with t1 | ⟨e,_⟩
  ·exact t1
  ·subst e;exact absurd (List.eq_nil_of_length_eq_zero t2.symm) hne
 refine SlOf.app (enc:=fun r:Row m=>r.1) s1 t4 (fun a=>a.2.1) (fun a=>a.2.2) (by rw [s2,t2];exact hb) fun v' h' F' s' f'=>w v' h' F' ⟨_,s',by simp [s2,t2],fun i b r' hi hj=>?_⟩ f'
 by_cases hlt:i<l.length
 ·rw [List.getElem?_append_left hlt] at hi
  rw [List.getElem?_append_left (by omega)] at hj
  exact s3 i b r' hi hj
 ·rw [List.getElem?_append_right (by omega)] at hi
  rw [List.getElem?_append_right (by omega)] at hj
  rw [s2] at hj
  exact t3 _ b r' hi hj
theorem InsR.cl {h:AHeap} {i:PIns} {row:List AVal} (r:InsR h i row):row.all (·.cell)=true:=by
 obtain ⟨_,v,rfl,s⟩:=r
 have:=SlIn.cellv s
 simp only [List.all_cons,List.all_nil,this];rfl
end Go.Proofs.Ytnbnpjhlflcjeaa.Id
namespace Go.Proofs.Ytnbnpjhlflcjeaa.Id
open Go Go.AM Go.Proofs.Ytnbnpjhlflcjeaa.AmGT
open Nat renaming reduceAdd → qA,reduceLeDiff → qB,reduceEqDiff → qC,reduceLT → qE
open Int renaming reduceToNat → qD,reduceEq → qG,reduceLT → qH,reduceLE → qI
/-! IdealLate. -/
def cLate1:List Nat→List PIns
 | []=>[]
 | v::l=>⟨1,1,0,0,v,[]⟩::⟨38,1,0,0,0,[1]⟩::cLate1 l
def cLate (l:List Nat):List PIns:=cLate1 l++[⟨1,1,0,0,999,[]⟩,⟨36,0,0,0,0,[]⟩]
def tLate (l:List Nat):List (Int×Int×Int):=List.map (fun v:Nat=>((1:Int),(0:Int),(v:Int))) (l.take 16).reverse++[if 16<l.length then (4,0,18446744073709551611) else (3,0,0)]
theorem showL0:showF (pOne (cLate [])) 200=some (tLate []):=by kernel_rfl
theorem okL0:limP (pOne (cLate []))=true∧(V.checkF (pOne (cLate []))).1=0:=⟨by kernel_rfl,by kernel_rfl⟩
theorem showL1 (v0:Nat):showF (pOne (cLate [v0])) 200=some (tLate [v0]):=by kernel_rfl
theorem okL1 (v0:Nat):limP (pOne (cLate [v0]))=true∧(V.checkF (pOne (cLate [v0]))).1=0:=⟨by kernel_rfl,by kernel_rfl⟩
theorem showL2 (v0 v1:Nat):showF (pOne (cLate [v0,v1])) 200=some (tLate [v0,v1]):=by kernel_rfl
theorem okL2 (v0 v1:Nat):limP (pOne (cLate [v0,v1]))=true∧(V.checkF (pOne (cLate [v0,v1]))).1=0:=⟨by kernel_rfl,by kernel_rfl⟩
theorem showL3 (v0 v1 v2:Nat):showF (pOne (cLate [v0,v1,v2])) 200=some (tLate [v0,v1,v2]):=by kernel_rfl
theorem okL3 (v0 v1 v2:Nat):limP (pOne (cLate [v0,v1,v2]))=true∧(V.checkF (pOne (cLate [v0,v1,v2]))).1=0:=⟨by kernel_rfl,by kernel_rfl⟩
theorem showL4 (v0 v1 v2 v3:Nat):showF (pOne (cLate [v0,v1,v2,v3])) 200=some (tLate [v0,v1,v2,v3]):=by kernel_rfl
theorem okL4 (v0 v1 v2 v3:Nat):limP (pOne (cLate [v0,v1,v2,v3]))=true∧(V.checkF (pOne (cLate [v0,v1,v2,v3]))).1=0:=⟨by kernel_rfl,by kernel_rfl⟩
theorem showL5 (v0 v1 v2 v3 v4:Nat):showF (pOne (cLate [v0,v1,v2,v3,v4])) 200=some (tLate [v0,v1,v2,v3,v4]):=by kernel_rfl
theorem okL5 (v0 v1 v2 v3 v4:Nat):limP (pOne (cLate [v0,v1,v2,v3,v4]))=true∧(V.checkF (pOne (cLate [v0,v1,v2,v3,v4]))).1=0:=⟨by kernel_rfl,by kernel_rfl⟩
theorem showL6 (v0 v1 v2 v3 v4 v5:Nat):showF (pOne (cLate [v0,v1,v2,v3,v4,v5])) 200=some (tLate [v0,v1,v2,v3,v4,v5]):=by kernel_rfl
theorem okL6 (v0 v1 v2 v3 v4 v5:Nat):limP (pOne (cLate [v0,v1,v2,v3,v4,v5]))=true∧(V.checkF (pOne (cLate [v0,v1,v2,v3,v4,v5]))).1=0:=⟨by kernel_rfl,by kernel_rfl⟩
theorem showL7 (v0 v1 v2 v3 v4 v5 v6:Nat):showF (pOne (cLate [v0,v1,v2,v3,v4,v5,v6])) 200=some (tLate [v0,v1,v2,v3,v4,v5,v6]):=by kernel_rfl
theorem okL7 (v0 v1 v2 v3 v4 v5 v6:Nat):limP (pOne (cLate [v0,v1,v2,v3,v4,v5,v6]))=true∧(V.checkF (pOne (cLate [v0,v1,v2,v3,v4,v5,v6]))).1=0:=⟨by kernel_rfl,by kernel_rfl⟩
theorem showL8 (v0 v1 v2 v3 v4 v5 v6 v7:Nat):showF (pOne (cLate [v0,v1,v2,v3,v4,v5,v6,v7])) 200=some (tLate [v0,v1,v2,v3,v4,v5,v6,v7]):=by kernel_rfl
theorem okL8 (v0 v1 v2 v3 v4 v5 v6 v7:Nat):limP (pOne (cLate [v0,v1,v2,v3,v4,v5,v6,v7]))=true∧(V.checkF (pOne (cLate [v0,v1,v2,v3,v4,v5,v6,v7]))).1=0:=⟨by kernel_rfl,by kernel_rfl⟩
theorem showL9 (v0 v1 v2 v3 v4 v5 v6 v7 v8:Nat):showF (pOne (cLate [v0,v1,v2,v3,v4,v5,v6,v7,v8])) 200=some (tLate [v0,v1,v2,v3,v4,v5,v6,v7,v8]):=by kernel_rfl
theorem okL9 (v0 v1 v2 v3 v4 v5 v6 v7 v8:Nat):limP (pOne (cLate [v0,v1,v2,v3,v4,v5,v6,v7,v8]))=true∧(V.checkF (pOne (cLate [v0,v1,v2,v3,v4,v5,v6,v7,v8]))).1=0:=⟨by kernel_rfl,by kernel_rfl⟩
theorem showL10 (v0 v1 v2 v3 v4 v5 v6 v7 v8 v9:Nat):showF (pOne (cLate [v0,v1,v2,v3,v4,v5,v6,v7,v8,v9])) 200=some (tLate [v0,v1,v2,v3,v4,v5,v6,v7,v8,v9]):=by kernel_rfl
theorem okL10 (v0 v1 v2 v3 v4 v5 v6 v7 v8 v9:Nat):limP (pOne (cLate [v0,v1,v2,v3,v4,v5,v6,v7,v8,v9]))=true∧(V.checkF (pOne (cLate [v0,v1,v2,v3,v4,v5,v6,v7,v8,v9]))).1=0:=⟨by kernel_rfl,by kernel_rfl⟩
theorem showL11 (v0 v1 v2 v3 v4 v5 v6 v7 v8 v9 v10:Nat):showF (pOne (cLate [v0,v1,v2,v3,v4,v5,v6,v7,v8,v9,v10])) 200=some (tLate [v0,v1,v2,v3,v4,v5,v6,v7,v8,v9,v10]):=by kernel_rfl
theorem okL11 (v0 v1 v2 v3 v4 v5 v6 v7 v8 v9 v10:Nat):limP (pOne (cLate [v0,v1,v2,v3,v4,v5,v6,v7,v8,v9,v10]))=true∧(V.checkF (pOne (cLate [v0,v1,v2,v3,v4,v5,v6,v7,v8,v9,v10]))).1=0:=⟨by kernel_rfl,by kernel_rfl⟩
theorem showL12 (v0 v1 v2 v3 v4 v5 v6 v7 v8 v9 v10 v11:Nat):showF (pOne (cLate [v0,v1,v2,v3,v4,v5,v6,v7,v8,v9,v10,v11])) 200=some (tLate [v0,v1,v2,v3,v4,v5,v6,v7,v8,v9,v10,v11]):=by kernel_rfl
theorem okL12 (v0 v1 v2 v3 v4 v5 v6 v7 v8 v9 v10 v11:Nat):limP (pOne (cLate [v0,v1,v2,v3,v4,v5,v6,v7,v8,v9,v10,v11]))=true∧(V.checkF (pOne (cLate [v0,v1,v2,v3,v4,v5,v6,v7,v8,v9,v10,v11]))).1=0:=⟨by kernel_rfl,by kernel_rfl⟩
theorem showL13 (v0 v1 v2 v3 v4 v5 v6 v7 v8 v9 v10 v11 v12:Nat):showF (pOne (cLate [v0,v1,v2,v3,v4,v5,v6,v7,v8,v9,v10,v11,v12])) 200=some (tLate [v0,v1,v2,v3,v4,v5,v6,v7,v8,v9,v10,v11,v12]):=by kernel_rfl
theorem okL13 (v0 v1 v2 v3 v4 v5 v6 v7 v8 v9 v10 v11 v12:Nat):limP (pOne (cLate [v0,v1,v2,v3,v4,v5,v6,v7,v8,v9,v10,v11,v12]))=true∧(V.checkF (pOne (cLate [v0,v1,v2,v3,v4,v5,v6,v7,v8,v9,v10,v11,v12]))).1=0:=⟨by kernel_rfl,by kernel_rfl⟩
theorem showL14 (v0 v1 v2 v3 v4 v5 v6 v7 v8 v9 v10 v11 v12 v13:Nat):showF (pOne (cLate [v0,v1,v2,v3,v4,v5,v6,v7,v8,v9,v10,v11,v12,v13])) 200=some (tLate [v0,v1,v2,v3,v4,v5,v6,v7,v8,v9,v10,v11,v12,v13]):=by kernel_rfl
theorem okL14 (v0 v1 v2 v3 v4 v5 v6 v7 v8 v9 v10 v11 v12 v13:Nat):limP (pOne (cLate [v0,v1,v2,v3,v4,v5,v6,v7,v8,v9,v10,v11,v12,v13]))=true∧(V.checkF (pOne (cLate [v0,v1,v2,v3,v4,v5,v6,v7,v8,v9,v10,v11,v12,v13]))).1=0:=⟨by kernel_rfl,by kernel_rfl⟩
theorem showL15 (v0 v1 v2 v3 v4 v5 v6 v7 v8 v9 v10 v11 v12 v13 v14:Nat):showF (pOne (cLate [v0,v1,v2,v3,v4,v5,v6,v7,v8,v9,v10,v11,v12,v13,v14])) 200=some (tLate [v0,v1,v2,v3,v4,v5,v6,v7,v8,v9,v10,v11,v12,v13,v14]):=by kernel_rfl
theorem okL15 (v0 v1 v2 v3 v4 v5 v6 v7 v8 v9 v10 v11 v12 v13 v14:Nat):limP (pOne (cLate [v0,v1,v2,v3,v4,v5,v6,v7,v8,v9,v10,v11,v12,v13,v14]))=true∧(V.checkF (pOne (cLate [v0,v1,v2,v3,v4,v5,v6,v7,v8,v9,v10,v11,v12,v13,v14]))).1=0:=⟨by kernel_rfl,by kernel_rfl⟩
theorem showL16 (v0 v1 v2 v3 v4 v5 v6 v7 v8 v9 v10 v11 v12 v13 v14 v15:Nat):showF (pOne (cLate [v0,v1,v2,v3,v4,v5,v6,v7,v8,v9,v10,v11,v12,v13,v14,v15])) 200=some (tLate [v0,v1,v2,v3,v4,v5,v6,v7,v8,v9,v10,v11,v12,v13,v14,v15]):=by kernel_rfl
theorem okL16 (v0 v1 v2 v3 v4 v5 v6 v7 v8 v9 v10 v11 v12 v13 v14 v15:Nat):limP (pOne (cLate [v0,v1,v2,v3,v4,v5,v6,v7,v8,v9,v10,v11,v12,v13,v14,v15]))=true∧(V.checkF (pOne (cLate [v0,v1,v2,v3,v4,v5,v6,v7,v8,v9,v10,v11,v12,v13,v14,v15]))).1=0:=⟨by kernel_rfl,by kernel_rfl⟩
theorem showL17 (v0 v1 v2 v3 v4 v5 v6 v7 v8 v9 v10 v11 v12 v13 v14 v15 v16:Nat):showF (pOne (cLate [v0,v1,v2,v3,v4,v5,v6,v7,v8,v9,v10,v11,v12,v13,v14,v15,v16])) 200=some (tLate [v0,v1,v2,v3,v4,v5,v6,v7,v8,v9,v10,v11,v12,v13,v14,v15,v16]):=by kernel_rfl
theorem okL17 (v0 v1 v2 v3 v4 v5 v6 v7 v8 v9 v10 v11 v12 v13 v14 v15 v16:Nat):limP (pOne (cLate [v0,v1,v2,v3,v4,v5,v6,v7,v8,v9,v10,v11,v12,v13,v14,v15,v16]))=true∧(V.checkF (pOne (cLate [v0,v1,v2,v3,v4,v5,v6,v7,v8,v9,v10,v11,v12,v13,v14,v15,v16]))).1=0:=⟨by kernel_rfl,by kernel_rfl⟩
theorem showL18 (v0 v1 v2 v3 v4 v5 v6 v7 v8 v9 v10 v11 v12 v13 v14 v15 v16 v17:Nat):showF (pOne (cLate [v0,v1,v2,v3,v4,v5,v6,v7,v8,v9,v10,v11,v12,v13,v14,v15,v16,v17])) 200=some (tLate [v0,v1,v2,v3,v4,v5,v6,v7,v8,v9,v10,v11,v12,v13,v14,v15,v16,v17]):=by kernel_rfl
theorem okL18 (v0 v1 v2 v3 v4 v5 v6 v7 v8 v9 v10 v11 v12 v13 v14 v15 v16 v17:Nat):limP (pOne (cLate [v0,v1,v2,v3,v4,v5,v6,v7,v8,v9,v10,v11,v12,v13,v14,v15,v16,v17]))=true∧(V.checkF (pOne (cLate [v0,v1,v2,v3,v4,v5,v6,v7,v8,v9,v10,v11,v12,v13,v14,v15,v16,v17]))).1=0:=⟨by kernel_rfl,by kernel_rfl⟩
theorem showL19 (v0 v1 v2 v3 v4 v5 v6 v7 v8 v9 v10 v11 v12 v13 v14 v15 v16 v17 v18:Nat):showF (pOne (cLate [v0,v1,v2,v3,v4,v5,v6,v7,v8,v9,v10,v11,v12,v13,v14,v15,v16,v17,v18])) 200=some (tLate [v0,v1,v2,v3,v4,v5,v6,v7,v8,v9,v10,v11,v12,v13,v14,v15,v16,v17,v18]):=by kernel_rfl
theorem okL19 (v0 v1 v2 v3 v4 v5 v6 v7 v8 v9 v10 v11 v12 v13 v14 v15 v16 v17 v18:Nat):limP (pOne (cLate [v0,v1,v2,v3,v4,v5,v6,v7,v8,v9,v10,v11,v12,v13,v14,v15,v16,v17,v18]))=true∧(V.checkF (pOne (cLate [v0,v1,v2,v3,v4,v5,v6,v7,v8,v9,v10,v11,v12,v13,v14,v15,v16,v17,v18]))).1=0:=⟨by kernel_rfl,by kernel_rfl⟩
theorem showL20 (v0 v1 v2 v3 v4 v5 v6 v7 v8 v9 v10 v11 v12 v13 v14 v15 v16 v17 v18 v19:Nat):showF (pOne (cLate [v0,v1,v2,v3,v4,v5,v6,v7,v8,v9,v10,v11,v12,v13,v14,v15,v16,v17,v18,v19])) 200=some (tLate [v0,v1,v2,v3,v4,v5,v6,v7,v8,v9,v10,v11,v12,v13,v14,v15,v16,v17,v18,v19]):=by kernel_rfl
theorem okL20 (v0 v1 v2 v3 v4 v5 v6 v7 v8 v9 v10 v11 v12 v13 v14 v15 v16 v17 v18 v19:Nat):limP (pOne (cLate [v0,v1,v2,v3,v4,v5,v6,v7,v8,v9,v10,v11,v12,v13,v14,v15,v16,v17,v18,v19]))=true∧(V.checkF (pOne (cLate [v0,v1,v2,v3,v4,v5,v6,v7,v8,v9,v10,v11,v12,v13,v14,v15,v16,v17,v18,v19]))).1=0:=⟨by kernel_rfl,by kernel_rfl⟩
theorem showLate:∀ l:List Nat,l.length≤20→showF (pOne (cLate l)) 200=some (tLate l)∧limP (pOne (cLate l))=true∧(V.checkF (pOne (cLate l))).1=0
 | [],_=>⟨showL0 ,okL0 ⟩
 | [v0],_=>⟨showL1 v0,okL1 v0⟩
 | [v0,v1],_=>⟨showL2 v0 v1,okL2 v0 v1⟩
 | [v0,v1,v2],_=>⟨showL3 v0 v1 v2,okL3 v0 v1 v2⟩
 | [v0,v1,v2,v3],_=>⟨showL4 v0 v1 v2 v3,okL4 v0 v1 v2 v3⟩
 | [v0,v1,v2,v3,v4],_=>⟨showL5 v0 v1 v2 v3 v4,okL5 v0 v1 v2 v3 v4⟩
 | [v0,v1,v2,v3,v4,v5],_=>⟨showL6 v0 v1 v2 v3 v4 v5,okL6 v0 v1 v2 v3 v4 v5⟩
 | [v0,v1,v2,v3,v4,v5,v6],_=>⟨showL7 v0 v1 v2 v3 v4 v5 v6,okL7 v0 v1 v2 v3 v4 v5 v6⟩
 | [v0,v1,v2,v3,v4,v5,v6,v7],_=>⟨showL8 v0 v1 v2 v3 v4 v5 v6 v7,okL8 v0 v1 v2 v3 v4 v5 v6 v7⟩
 | [v0,v1,v2,v3,v4,v5,v6,v7,v8],_=>⟨showL9 v0 v1 v2 v3 v4 v5 v6 v7 v8,okL9 v0 v1 v2 v3 v4 v5 v6 v7 v8⟩
 | [v0,v1,v2,v3,v4,v5,v6,v7,v8,v9],_=>⟨showL10 v0 v1 v2 v3 v4 v5 v6 v7 v8 v9,okL10 v0 v1 v2 v3 v4 v5 v6 v7 v8 v9⟩
 | [v0,v1,v2,v3,v4,v5,v6,v7,v8,v9,v10],_=>⟨showL11 v0 v1 v2 v3 v4 v5 v6 v7 v8 v9 v10,okL11 v0 v1 v2 v3 v4 v5 v6 v7 v8 v9 v10⟩
 | [v0,v1,v2,v3,v4,v5,v6,v7,v8,v9,v10,v11],_=>⟨showL12 v0 v1 v2 v3 v4 v5 v6 v7 v8 v9 v10 v11,okL12 v0 v1 v2 v3 v4 v5 v6 v7 v8 v9 v10 v11⟩
 | [v0,v1,v2,v3,v4,v5,v6,v7,v8,v9,v10,v11,v12],_=>⟨showL13 v0 v1 v2 v3 v4 v5 v6 v7 v8 v9 v10 v11 v12,okL13 v0 v1 v2 v3 v4 v5 v6 v7 v8 v9 v10 v11 v12⟩
 | [v0,v1,v2,v3,v4,v5,v6,v7,v8,v9,v10,v11,v12,v13],_=>⟨showL14 v0 v1 v2 v3 v4 v5 v6 v7 v8 v9 v10 v11 v12 v13,okL14 v0 v1 v2 v3 v4 v5 v6 v7 v8 v9 v10 v11 v12 v13⟩
 | [v0,v1,v2,v3,v4,v5,v6,v7,v8,v9,v10,v11,v12,v13,v14],_=>⟨showL15 v0 v1 v2 v3 v4 v5 v6 v7 v8 v9 v10 v11 v12 v13 v14,okL15 v0 v1 v2 v3 v4 v5 v6 v7 v8 v9 v10 v11 v12 v13 v14⟩
 | [v0,v1,v2,v3,v4,v5,v6,v7,v8,v9,v10,v11,v12,v13,v14,v15],_=>⟨showL16 v0 v1 v2 v3 v4 v5 v6 v7 v8 v9 v10 v11 v12 v13 v14 v15,okL16 v0 v1 v2 v3 v4 v5 v6 v7 v8 v9 v10 v11 v12 v13 v14 v15⟩
 | [v0,v1,v2,v3,v4,v5,v6,v7,v8,v9,v10,v11,v12,v13,v14,v15,v16],_=>⟨showL17 v0 v1 v2 v3 v4 v5 v6 v7 v8 v9 v10 v11 v12 v13 v14 v15 v16,okL17 v0 v1 v2 v3 v4 v5 v6 v7 v8 v9 v10 v11 v12 v13 v14 v15 v16⟩
 | [v0,v1,v2,v3,v4,v5,v6,v7,v8,v9,v10,v11,v12,v13,v14,v15,v16,v17],_=>⟨showL18 v0 v1 v2 v3 v4 v5 v6 v7 v8 v9 v10 v11 v12 v13 v14 v15 v16 v17,okL18 v0 v1 v2 v3 v4 v5 v6 v7 v8 v9 v10 v11 v12 v13 v14 v15 v16 v17⟩
 | [v0,v1,v2,v3,v4,v5,v6,v7,v8,v9,v10,v11,v12,v13,v14,v15,v16,v17,v18],_=>⟨showL19 v0 v1 v2 v3 v4 v5 v6 v7 v8 v9 v10 v11 v12 v13 v14 v15 v16 v17 v18,okL19 v0 v1 v2 v3 v4 v5 v6 v7 v8 v9 v10 v11 v12 v13 v14 v15 v16 v17 v18⟩
 | [v0,v1,v2,v3,v4,v5,v6,v7,v8,v9,v10,v11,v12,v13,v14,v15,v16,v17,v18,v19],_=>⟨showL20 v0 v1 v2 v3 v4 v5 v6 v7 v8 v9 v10 v11 v12 v13 v14 v15 v16 v17 v18 v19,okL20 v0 v1 v2 v3 v4 v5 v6 v7 v8 v9 v10 v11 v12 v13 v14 v15 v16 v17 v18 v19⟩
 | v0::v1::v2::v3::v4::v5::v6::v7::v8::v9::v10::v11::v12::v13::v14::v15::v16::v17::v18::v19::v20::l,h=>absurd h (by simp only [List.length_cons];omega)
theorem okLate1:∀ l:List Nat,(∀ v,v∈l→v≤18446744073709551615)→(cLate1 l).all okI=true
 | [],_=>rfl
 | v::l,h=>by
  have:=okLate1 l fun w hw=>h w (List.mem_cons_of_mem _ hw)
  have hv:=h v List.mem_cons_self
  simp only [cLate1,List.all_cons,this,okI,hv,Bool.and_true,Bool.true_and,decide_true]
  first | rfl | simp
theorem goodLate {l:List Nat} (hl:l.length≤20) (hb:∀ v,v∈l→v≤18446744073709551615):goodP (pOne (cLate l))=true:=by
 simp only [goodP,Bool.and_eq_true,decide_eq_true_eq]
 refine ⟨⟨?_,(showLate l hl).2.1⟩,(showLate l hl).2.2⟩
 simp only [okP,okF,pOne,cLate,List.all_cons,List.all_nil,List.all_append,okLate1 l hb,Bool.and_true,Bool.true_and]
 kernel_rfl
end Go.Proofs.Ytnbnpjhlflcjeaa.Id
namespace Go.Proofs.Ytnbnpjhlflcjeaa.Id
open Go Go.AM Go.Proofs.Ytnbnpjhlflcjeaa.AmGT
open Nat renaming reduceAdd → qA,reduceLeDiff → qB,reduceEqDiff → qC,reduceLT → qE
open Int renaming reduceToNat → qD,reduceEq → qG,reduceLT → qH,reduceLE → qI
def InsL (S:List Nat) (i:PIns) (row:List AVal):Prop:=i.imm≤18446744073709551615∧∃ v,row=[.int .i64 i.op,.int .i64 i.a,.int .i64 i.b,.int .i64 i.c,.int .u64 i.imm,v]∧((v=.nils∧i.list=[])∨∃ id,id∈S∧v=.sl id 0 0 1 1∧i.list=[1])
def Ones (h:AHeap) (S:List Nat):Prop:=∀ id,id∈S→h.get id=.cells 0 false [.int .i64 1]∧id<h.n
theorem InsL.cl {S:List Nat} {i:PIns} {row:List AVal} (r:InsL S i row):row.all (·.cell)=true:=by
 obtain ⟨_,v,rfl,s⟩:=r
 rcases s with ⟨rfl,_⟩ | ⟨id,_,rfl,_⟩<;>rfl
theorem InsL.ins {h:AHeap} {S:List Nat} (o:Ones h S) {i:PIns} {row:List AVal} (r:InsL S i row):InsR h i row:=by
 obtain ⟨a,v,rfl,s⟩:=r
 refine ⟨a,v,rfl,?_⟩
 rcases s with ⟨rfl,e⟩ | ⟨id,hid,rfl,e⟩
 ·rw [e];exact SlIn.nilI
 ·rw [e];exact SlIn.lit (l:=[1]) (o id hid).1 rfl (o id hid).2
theorem InsL.more {S S':List Nat} (hs:∀ j,j∈S→j∈S') {i:PIns} {row:List AVal} (r:InsL S i row):InsL S' i row:=by
 obtain ⟨a,v,e,s⟩:=r
 exact ⟨a,v,e,s.imp id fun ⟨id,hid,q⟩=>⟨id,hs id hid,q⟩⟩
theorem cLate1_app (l m:List Nat):cLate1 (l++m)=cLate1 l++cLate1 m:=by
 induction l with
 | nil=>rfl
 | cons a l ih=>simp only [List.cons_append,cLate1,ih]
theorem cLate1_len (l:List Nat):(cLate1 l).length=2*l.length:=by
 induction l with
 | nil=>rfl
 | cons a l ih=>simp only [cLate1,List.length_cons,ih];omega
set_option maxHeartbeats 2000000 in
theorem lawLate {h:AHeap} {v:AVal} {l:List Int} (L:SlIn h 1 encB v l) (hb:∀ b,b∈l→0≤b∧b≤255) (hl:l.length≤1048576):CallP AP 7 [v] h fun r h'=>r=.bool true:=by
 refine callP (rfl:Tr.get AP 7=some A7) ?_
 generalize hQ:(fun (r:AVal) (h':AHeap)=>_)=Q
 have vc:=SlIn.cellv L
 have hlen:=fun hZ=>SlIn.len L hZ
 simp -implicitDefEqProofs (disch:=first|exact dz _|fail) only [↓AM.R0,AM.R1,AM.R2,qA,qB,qC,qD,qE,↓reduceIte,qG,qH,qI,hlen]
 obtain ⟨m,hm⟩:∃ m:Nat,m=min l.length 20:=⟨_,rfl⟩
 have em:min (l.length:Int) 20=(m:Int):=by omega
 obtain ⟨v',e1,L'⟩:=L.uptoAt (fun _=>rfl) (m:=m) (by omega) .i64 (h1:=h) (fun _ _=>rfl)
 rw [em]
 simp -implicitDefEqProofs (disch:=first|exact dz _|fail) only [↓AM.R0,AM.R1,AM.R2,qA,qB,qC,qD,qE,↓reduceIte,qG,qH,qI,e1]
 obtain ⟨nl,hnl⟩:∃ nl:List Nat,l.take m=nl.map (fun n:Nat=>(n:Int)):=⟨(l.take m).map Int.toNat,by
  rw [List.map_map]
  refine (List.map_id' _).symm.trans (List.map_congr_left fun a ha=>?_)
  have:=hb a (List.mem_of_mem_take ha)
  show a=((a.toNat:Nat):Int)
  omega⟩
 have hnm:nl.length=m:=by have:=congrArg List.length hnl;simp at this;omega
 have hnb:∀ n,n∈nl→n≤255:=fun n hn=>by
  have:(n:Int)∈l.take m:=by rw [hnl];exact List.mem_map_of_mem hn
  have:=hb _ (List.mem_of_mem_take this)
  omega
 rw [hnl] at L'
 have hlen':=fun hZ=>SlIn.len L' hZ
 rw [List.length_map] at hlen'
 have vc':=SlIn.cellv L'
 have LL:∀ hZ F,HFrame h hZ [] F→SlIn hZ 1 encB v' (nl.map (fun n:Nat=>(n:Int))):=fun hZ F f=>L'.mono f.n fun j hj=>f.get j hj (by simp)
 simp -implicitDefEqProofs (disch:=first|exact dz _|fail) only [↓AM.R0,AM.R1,AM.R2,qA,qB,qC,qD,qE,↓reduceIte,qG,qH,qI,hlen']
 refine AM.loopI_of (fun c e h5=>∃ (i:Nat) (cv:AVal) (S F:List Nat),c+i=nl.length∧e.val 0=v'∧e.val 14=v'∧e.val 15=.int .i64 nl.length∧e.val 16=.int .i64 i∧e.val 3=cv∧RowsOf h5 6 (InsL S) cv (cLate1 (nl.take i)) F∧Ones h5 S∧(∀ j,j∈S→j ∉ F)∧HFrame h h5 [] F) nl.length ?_ ?_
 ·refine ⟨0,.nils,[],[],by omega,?_,?_,?_,?_,?_,RowsOf.nil,by simp [Ones],by simp,HFrame.refl (by simp)⟩<;>(simp -implicitDefEqProofs (disch:=first|exact dz _|fail) only [↓AM.R0,AM.R1,AM.R2,qA,qB,qC,qD,qE,↓reduceIte,qG,qH,qI])<;>rfl
 ·rintro c e h5 ⟨i,cv,S,F,hci,y0,y14,y15,y16,y3,RC,ON,DJ,FR⟩
  have cc:=RC.cells.2
  by_cases c1:(i:Int)<nl.length
  ·have d1:decide ((i:Int)<nl.length)=true:=decide_eq_true c1
   obtain ⟨a,ha⟩:∃ a,nl[i]?=some a:=⟨_,List.getElem?_eq_getElem (by omega)⟩
   have hba:=hnb a (List.mem_of_getElem? ha)
   have ha':(nl.map (fun n:Nat=>(n:Int)))[i]?=some (a:Int):=by rw [List.getElem?_map,ha];rfl
   obtain ⟨id1,g1,off1,vs1,ro1,t1,t2,t3,t4⟩:=SlRd.ixI (enc:=fun n=>.int .u8 n) ((LL h5 F FR).rd ha') (at?_of (n:=i) ha')
   have w1:IntKind.u64.wrap (a:Int)=a:=wrapU64 (by omega) (by omega)
   have wz:IntKind.i64.wrap ((i:Int)+1)=((i+1:Nat):Int):=(wrap64 (by omega) (by omega)).trans (by omega)
   have ht:cLate1 (nl.take (i+1))=cLate1 (nl.take i)++[⟨1,1,0,0,a,[]⟩,⟨38,1,0,0,0,[1]⟩]:=by rw [List.take_add_one,ha,cLate1_app];rfl
   simp -implicitDefEqProofs (disch:=first|exact dz _|fail) only [↓AM.R0,AM.R1,AM.R2,qA,qB,qC,qD,qE,↓reduceIte,qG,qH,qI,y0,y14,y15,y16,y3,d1,t1,t2,t4,w1,AM.a_buildSlice,List.range,List.range.loop,List.getD_cons_zero,List.getD_cons_succ,Nat.mod_one,Nat.reduceMod,Nat.reduceMul]
   generalize hh6:((h5.push (.cells 0 false [.int .i64 1])).push (.cells 0 false [.int .i64 1,.int .i64 1,.int .i64 0,.int .i64 0,.int .u64 (a:Int),.nils,.int .i64 38,.int .i64 1,.int .i64 0,.int .i64 0,.int .u64 0,.sl h5.n 0 0 1 1]))=h6
   have f6:HFrame h h6 [] F:=by rw [←hh6];exact (FR.pushTmp _).pushTmp _
   have g6:HFrame h5 h6 [] []:=by rw [←hh6];(repeat (first | with_reducible apply HFrame.pushTmp | with_reducible refine HFrame.setTmp ?_ (by omega) _ | with_reducible exact HFrame.refl (by simp)))
   have ga:h6.get h5.n=.cells 0 false [.int .i64 1]:=by rw [←hh6];simp -implicitDefEqProofs (disch:=first|exact dz _|fail) only [↓AM.R0,AM.R1,AM.R2,qA,qB,qC,qD,qE,↓reduceIte,qG,qH,qI]
   have gb:h6.get (h5.n+1)=.cells 0 false [.int .i64 1,.int .i64 1,.int .i64 0,.int .i64 0,.int .u64 (a:Int),.nils,.int .i64 38,.int .i64 1,.int .i64 0,.int .i64 0,.int .u64 0,.sl h5.n 0 0 1 1]:=by rw [←hh6];simp -implicitDefEqProofs (disch:=first|exact dz _|fail) only [↓AM.R0,AM.R1,AM.R2,qA,qB,qC,qD,qE,↓reduceIte,qG,qH,qI]
   have n6:h6.n=h5.n+1+1:=by rw [←hh6];simp -implicitDefEqProofs (disch:=first|exact dz _|fail) only [↓AM.R0,AM.R1,AM.R2,qA,qB,qC,qD,qE,↓reduceIte,qG,qH,qI]
   clear hh6
   have RC6:RowsOf h6 6 (InsL (h5.n::S)) cv (cLate1 (nl.take i)) F:=(RC.frame g6.n fun j hj=>g6.get j (RC.lt j hj) (by simp)).monoR fun _ _ q=>q.more fun j hj=>List.mem_cons_of_mem _ hj
   have R2:SlR h6 6 (InsL (h5.n::S)) (.sl (h5.n+1) 0 0 2 6) [⟨1,1,0,0,a,[]⟩,⟨38,1,0,0,0,[1]⟩]:=SlR.lit (l:=[(⟨1,1,0,0,a,[]⟩:PIns),⟨38,1,0,0,0,[1]⟩]) (rows:=[[.int .i64 1,.int .i64 1,.int .i64 0,.int .i64 0,.int .u64 (a:Int),.nils],[.int .i64 38,.int .i64 1,.int .i64 0,.int .i64 0,.int .u64 0,.sl h5.n 0 0 1 1]]) gb rfl (by omega) (by simp) ⟨⟨by show a≤_;omega,_,rfl,.inl ⟨rfl,rfl⟩⟩,⟨by decide,_,rfl,.inr ⟨_,List.mem_cons_self,rfl,rfl⟩⟩,trivial⟩
   refine AM.opI_of (RowsOf.appR RC6 R2 (List.cons_ne_nil _ _) (fun _ _ q=>InsL.cl q) (by rw [cLate1_len,List.length_take];simp only [List.length_cons,List.length_nil];omega) fun c' h7 F' RC7 f7=>?_)
   rw [←ht] at RC7
   have nF:h5.n ∉ F:=fun q=>by have:=RC.lt _ q;omega
   have DJ6:∀ j,j∈h5.n::S→j ∉ F:=fun j hj=>by
    rcases List.mem_cons.1 hj with rfl | hj
    ·exact nF
    ·exact DJ j hj
   have lt6:∀ j,j∈h5.n::S→j<h6.n:=fun j hj=>by
    rcases List.mem_cons.1 hj with rfl | hj
    ·omega
    ·have:=(ON j hj).2;omega
   have ON7:Ones h7 (h5.n::S):=fun j hj=>⟨(f7.get j (lt6 j hj) (DJ6 j hj)).trans (by
    rcases List.mem_cons.1 hj with rfl | hj
    ·exact ga
    ·exact (g6.get j (ON j hj).2 (by simp)).trans (ON j hj).1),by have:=f7.n;have:=lt6 j hj;omega⟩
   have cc7:=RC7.cells.2
   simp -implicitDefEqProofs (disch:=first|exact dz _|fail) only [↓AM.R0,AM.R1,AM.R2,qA,qB,qC,qD,qE,↓reduceIte,qG,qH,qI,y0,y14,y15,y16,y3,wz,cc7]
   exact ⟨c-1,by omega,i+1,c',h5.n::S,F',by omega,rfl,rfl,RC7,ON7,fun j hj=>f7.out (DJ6 j hj) (lt6 j hj),f6.trans f7⟩
  ·have d1:decide ((i:Int)<nl.length)=false:=decide_eq_false c1
   simp -implicitDefEqProofs (disch:=first|exact dz _|fail) only [↓AM.R0,AM.R1,AM.R2,qA,qB,qC,qD,qE,↓reduceIte,qG,qH,qI,y0,y14,y15,y16,y3,d1,AM.a_buildSlice,List.range,List.range.loop,List.getD_cons_zero,List.getD_cons_succ,Nat.mod_one,Nat.reduceMod,Nat.reduceMul]
   generalize hh6:(h5.push (.cells 0 false [.int .i64 1,.int .i64 1,.int .i64 0,.int .i64 0,.int .u64 999,.nils,.int .i64 36,.int .i64 0,.int .i64 0,.int .i64 0,.int .u64 0,.nils]))=h6
   have f6:HFrame h h6 [] F:=by rw [←hh6];exact FR.pushTmp _
   have g6:HFrame h5 h6 [] []:=by rw [←hh6];(repeat (first | with_reducible apply HFrame.pushTmp | with_reducible refine HFrame.setTmp ?_ (by omega) _ | with_reducible exact HFrame.refl (by simp)))
   have gb:h6.get h5.n=.cells 0 false [.int .i64 1,.int .i64 1,.int .i64 0,.int .i64 0,.int .u64 999,.nils,.int .i64 36,.int .i64 0,.int .i64 0,.int .i64 0,.int .u64 0,.nils]:=by rw [←hh6];simp -implicitDefEqProofs (disch:=first|exact dz _|fail) only [↓AM.R0,AM.R1,AM.R2,qA,qB,qC,qD,qE,↓reduceIte,qG,qH,qI]
   have n6:h6.n=h5.n+1:=by rw [←hh6];simp -implicitDefEqProofs (disch:=first|exact dz _|fail) only [↓AM.R0,AM.R1,AM.R2,qA,qB,qC,qD,qE,↓reduceIte,qG,qH,qI]
   clear hh6
   have RC6:RowsOf h6 6 (InsL S) cv (cLate1 (nl.take i)) F:=RC.frame g6.n fun j hj=>g6.get j (RC.lt j hj) (by simp)
   have R2:SlR h6 6 (InsL S) (.sl h5.n 0 0 2 6) [⟨1,1,0,0,999,[]⟩,⟨36,0,0,0,0,[]⟩]:=SlR.lit (l:=[(⟨1,1,0,0,999,[]⟩:PIns),⟨36,0,0,0,0,[]⟩]) (rows:=[[.int .i64 1,.int .i64 1,.int .i64 0,.int .i64 0,.int .u64 999,.nils],[.int .i64 36,.int .i64 0,.int .i64 0,.int .i64 0,.int .u64 0,.nils]]) gb rfl (by omega) (by simp) ⟨⟨by decide,_,rfl,.inl ⟨rfl,rfl⟩⟩,⟨by decide,_,rfl,.inl ⟨rfl,rfl⟩⟩,trivial⟩
   refine AM.opI_of (RowsOf.appR RC6 R2 (List.cons_ne_nil _ _) (fun _ _ q=>InsL.cl q) (by rw [cLate1_len,List.length_take];simp only [List.length_cons,List.length_nil];omega) fun c' hC F' RC7 f7=>?_)
   have ei:nl.take i=nl:=List.take_of_length_le (by omega)
   rw [ei] at RC7
   have ONC:Ones hC S:=fun j hj=>⟨(f7.get j (by have:=(ON j hj).2;omega) (DJ j hj)).trans ((g6.get j (ON j hj).2 (by simp)).trans (ON j hj).1),by have:=f7.n;have:=(ON j hj).2;omega⟩
   have RI:SlR hC 6 (InsR hC) c' (cLate nl):=RC7.slR.mono (fun _ _ q=>q.ins ONC) (Nat.le_refl _) fun _ _=>rfl
   have FC:HFrame h hC [] F':=f6.trans f7
   have cc7:=RC7.cells.2
   clear RC7 ONC RC6 R2 RC f7 DJ ON
   simp -implicitDefEqProofs (disch:=first|exact dz _|fail) only [↓AM.R0,AM.R1,AM.R2,qA,qB,qC,qD,qE,↓reduceIte,qG,qH,qI,y0,y14,y15,y16,y3,cc7,hlen']
   obtain ⟨q,hq⟩:∃ q:Nat,q=min nl.length 16:=⟨_,rfl⟩
   have eq1:IntKind.i64.wrap (min (nl.length:Int) 16-1)=(q:Int)-1-(0:Nat):=(wrap64 (by omega) (by omega)).trans (by omega)
   rw [eq1]
   refine AM.loopI_of (fun c e h8=>∃ (z:Nat) (wv:AVal) (G:List Nat),c+z=q∧e.val 0=v'∧e.val 3=c'∧e.val 7=.int .i64 ((q:Int)-1-z)∧e.val 6=wv∧SlOf h8 3 encE wv (((nl.take q).reverse.take z).map (fun v:Nat=>((1:Int),(0:Int),(v:Int)))) G∧HFrame hC h8 [] G) q ?_ ?_
   ·refine ⟨0,.nils,[],by omega,?_,?_,?_,?_,SlOf.nil,HFrame.refl (by simp)⟩<;>(simp -implicitDefEqProofs (disch:=first|exact dz _|fail) only [↓AM.R0,AM.R1,AM.R2,qA,qB,qC,qD,qE,↓reduceIte,qG,qH,qI,y0])<;>rfl
   ·rintro c e h8 ⟨z,wv,G,hcz,x0,x3,x7,x6,sw,fw⟩
    have cw:=SlRd.cl sw.rd
    by_cases c2:(0:Int)≤(q:Int)-1-z
    ·have d2:decide ((0:Int)≤(q:Int)-1-z)=true:=decide_eq_true c2
     obtain ⟨a,ha⟩:∃ a,nl[q-1-z]?=some a:=⟨_,List.getElem?_eq_getElem (by omega)⟩
     have hba:=hnb a (List.mem_of_getElem? ha)
     have ha':(nl.map (fun n:Nat=>(n:Int)))[q-1-z]?=some (a:Int):=by rw [List.getElem?_map,ha];rfl
     have ez:(q:Int)-1-z=((q-1-z:Nat):Int):=by omega
     obtain ⟨id1,g1,off1,vs1,ro1,t1,t2,t3,t4⟩:=SlRd.ixI (enc:=fun n=>.int .u8 n) ((LL h8 _ ((hfNon FC).trans fw)).rd ha') (at?_of (n:=q-1-z) ha')
     have w1:IntKind.u64.wrap (a:Int)=a:=wrapU64 (by omega) (by omega)
     have wz:IntKind.i64.wrap ((q:Int)-1-z-1)=(q:Int)-1-((z+1:Nat):Int):=(wrap64 (by omega) (by omega)).trans (by omega)
     rw [←ez] at t1
     simp -implicitDefEqProofs (disch:=first|exact dz _|fail) only [↓AM.R0,AM.R1,AM.R2,qA,qB,qC,qD,qE,↓reduceIte,qG,qH,qI,x0,x3,x7,x6,d2,t1,t2,t4,w1,cw]
     have hr:(nl.take q).reverse[z]?=some a:=by
      rw [List.getElem?_reverse (by rw [List.length_take];omega),List.length_take,Nat.min_eq_left (by omega),List.getElem?_take,if_pos (by omega),ha]
     have htk:((nl.take q).reverse.take (z+1)).map (fun v:Nat=>((1:Int),(0:Int),(v:Int)))=((nl.take q).reverse.take z).map (fun v:Nat=>((1:Int),(0:Int),(v:Int)))++[(1,0,(a:Int))]:=by rw [List.take_add_one,hr];simp
     refine AM.opI_of (SlOf.app1 (enc:=encE) sw (fun _=>rfl) (fun _=>rfl) (by rw [List.length_map,List.length_take,List.length_reverse,List.length_take];omega) (1,0,(a:Int)) fun w' h9 G' s9 f9=>?_)
     rw [←htk] at s9
     have c9:=SlRd.cl s9.rd
     simp -implicitDefEqProofs (disch:=first|exact dz _|fail) only [↓AM.R0,AM.R1,AM.R2,qA,qB,qC,qD,qE,↓reduceIte,qG,qH,qI,x0,x3,x7,x6,c9,wz]
     exact ⟨c-1,by omega,z+1,w',G',by omega,rfl,rfl,s9,fw.trans f9⟩
    ·have d2:decide ((0:Int)≤(q:Int)-1-z)=false:=decide_eq_false c2
     simp -implicitDefEqProofs (disch:=first|exact dz _|fail) only [↓AM.R0,AM.R1,AM.R2,qA,qB,qC,qD,qE,↓reduceIte,qG,qH,qI,x0,x3,x7,x6,d2]
     have hz:z=q:=by omega
     have htk:((nl.take q).reverse.take z)=(nl.take q).reverse:=List.take_of_length_le (by rw [List.length_reverse,List.length_take];omega)
     rw [htk] at sw
     have hqt:nl.take q=nl.take 16:=by
      rw [hq,←List.take_take,List.take_of_length_le (l:=nl.take 16) (by rw [List.length_take];omega)]<;>rfl
     have nC:=fw.n
     by_cases c3:(16:Int)<nl.length
     ·have d3:decide ((16:Int)<nl.length)=true:=decide_eq_true c3
      simp -implicitDefEqProofs (disch:=first|exact dz _|fail) only [↓AM.R0,AM.R1,AM.R2,qA,qB,qC,qD,qE,↓reduceIte,qG,qH,qI,x0,x3,x7,x6,cw,hlen',d3]
      generalize hhT:(((h8.push (.cells 0 false [.int .i64 0,.int .i64 0,.int .u64 0])).set h8.n (.cells 0 false [.int .i64 3,.int .i64 0,.int .u64 0])).set h8.n (.cells 0 false [.int .i64 4,.int .i64 0,.int .u64 18446744073709551611]))=hT
      have nT:hT.n=h8.n+1:=by rw [←hhT];rfl
      rw [←nT]
      have fT:HFrame hC hT [] G:=by rw [←hhT];exact ((fw.pushTmp _).setTmp nC _).setTmp nC _
      have sT:SlOf hT 3 encE wv ((nl.take q).reverse.map (fun v:Nat=>((1:Int),(0:Int),(v:Int)))) G:=sw.frame (by rw [←hhT];exact Nat.le_succ _) fun j hj=>by
       have:=sw.lt j hj
       rw [←hhT];simp -implicitDefEqProofs (disch:=first|exact dz _|fail) only [↓AM.R0,AM.R1,AM.R2,qA,qB,qC,qD,qE,↓reduceIte,qG,qH,qI]
      refine AM.opI_of (SlOf.app1 (bytes:=24) (enc:=encE) sT (fun _=>rfl) (fun _=>rfl) (by rw [List.length_map,List.length_reverse,List.length_take];omega) (4,0,18446744073709551611) fun w' hD GD sD fD'=>?_)
      have fD:=fT.trans fD'
      have eD:(nl.take q).reverse.map (fun v:Nat=>((1:Int),(0:Int),(v:Int)))++[(4,0,18446744073709551611)]=tLate nl:=by
       unfold tLate;rw [hqt,if_pos (by omega)]
      rw [eD] at sD
      have cD:=SlRd.cl sD.rd
      simp -implicitDefEqProofs (disch:=first|exact dz _|fail) only [↓AM.R0,AM.R1,AM.R2,qA,qB,qC,qD,qE,↓reduceIte,qG,qH,qI,x0,x3,x7,x6,cD]
      refine AM.callI_of (awake hD) ?_
      rintro r h11 ⟨rfl,f11⟩
      have f11':=(hfNon fD).trans f11
      simp -implicitDefEqProofs (disch:=first|exact dz _|fail) only [↓AM.R0,AM.R1,AM.R2,qA,qB,qC,qD,qE,↓reduceIte,qG,qH,qI,x0,x3,x7,x6,cD]
      refine AM.callI_of (one (RI.mono (fun _ _ q=>q.mono f11'.n fun j hj=>f11'.get j hj (by simp)) f11'.n fun j hj=>f11'.get j hj (by simp))) ?_
      rintro r h12 ⟨f12,row,rfl,RR⟩
      simp -implicitDefEqProofs (disch:=first|exact dz _|fail) only [↓AM.R0,AM.R1,AM.R2,qA,qB,qC,qD,qE,↓reduceIte,qG,qH,qI,x0,x3,x7,x6,cD]
      refine AM.callI_of (shownS RR (goodLate (l:=nl) (by omega) fun v hv=>by have:=hnb v hv;omega) (by decide) (showLate nl (by omega)).1 (steps:=200)) ?_
      rintro tv h13 ⟨F13,s13,f13⟩
      have c13:=SlRd.cl s13.rd
      simp -implicitDefEqProofs (disch:=first|exact dz _|fail) only [↓AM.R0,AM.R1,AM.R2,qA,qB,qC,qD,qE,↓reduceIte,qG,qH,qI,x0,x3,x7,x6,cD,c13]
      refine AM.callI_of (sameTrace s13.rd (sD.rd.keep ((f11.trans f12).trans (hfNon f13))) (by rw [←eD,List.length_append,List.length_map,List.length_reverse,List.length_take];simp only [List.length_cons,List.length_nil];omega)) ?_
      rintro r h14 ⟨rfl,rfl⟩
      simp -implicitDefEqProofs (disch:=first|exact dz _|fail) only [↓AM.R0,AM.R1,AM.R2,qA,qB,qC,qD,qE,↓reduceIte,qG,qH,qI]
      subst hQ
      first | rfl | exact congrArg AVal.bool (decide_eq_true rfl)
     ·have d3:decide ((16:Int)<nl.length)=false:=decide_eq_false c3
      simp -implicitDefEqProofs (disch:=first|exact dz _|fail) only [↓AM.R0,AM.R1,AM.R2,qA,qB,qC,qD,qE,↓reduceIte,qG,qH,qI,x0,x3,x7,x6,cw,hlen',d3]
      generalize hhT:((h8.push (.cells 0 false [.int .i64 0,.int .i64 0,.int .u64 0])).set h8.n (.cells 0 false [.int .i64 3,.int .i64 0,.int .u64 0]))=hT
      have nT:hT.n=h8.n+1:=by rw [←hhT];rfl
      rw [←nT]
      have fT:HFrame hC hT [] G:=by rw [←hhT];exact (fw.pushTmp _).setTmp nC _
      have sT:SlOf hT 3 encE wv ((nl.take q).reverse.map (fun v:Nat=>((1:Int),(0:Int),(v:Int)))) G:=sw.frame (by rw [←hhT];exact Nat.le_succ _) fun j hj=>by
       have:=sw.lt j hj
       rw [←hhT];simp -implicitDefEqProofs (disch:=first|exact dz _|fail) only [↓AM.R0,AM.R1,AM.R2,qA,qB,qC,qD,qE,↓reduceIte,qG,qH,qI]
      refine AM.opI_of (SlOf.app1 (bytes:=24) (enc:=encE) sT (fun _=>rfl) (fun _=>rfl) (by rw [List.length_map,List.length_reverse,List.length_take];omega) (3,0,0) fun w' hD GD sD fD'=>?_)
      have fD:=fT.trans fD'
      have eD:(nl.take q).reverse.map (fun v:Nat=>((1:Int),(0:Int),(v:Int)))++[(3,0,0)]=tLate nl:=by
       unfold tLate;rw [hqt,if_neg (by omega)]
      rw [eD] at sD
      have cD:=SlRd.cl sD.rd
      simp -implicitDefEqProofs (disch:=first|exact dz _|fail) only [↓AM.R0,AM.R1,AM.R2,qA,qB,qC,qD,qE,↓reduceIte,qG,qH,qI,x0,x3,x7,x6,cD]
      refine AM.callI_of (awake hD) ?_
      rintro r h11 ⟨rfl,f11⟩
      have f11':=(hfNon fD).trans f11
      simp -implicitDefEqProofs (disch:=first|exact dz _|fail) only [↓AM.R0,AM.R1,AM.R2,qA,qB,qC,qD,qE,↓reduceIte,qG,qH,qI,x0,x3,x7,x6,cD]
      refine AM.callI_of (one (RI.mono (fun _ _ q=>q.mono f11'.n fun j hj=>f11'.get j hj (by simp)) f11'.n fun j hj=>f11'.get j hj (by simp))) ?_
      rintro r h12 ⟨f12,row,rfl,RR⟩
      simp -implicitDefEqProofs (disch:=first|exact dz _|fail) only [↓AM.R0,AM.R1,AM.R2,qA,qB,qC,qD,qE,↓reduceIte,qG,qH,qI,x0,x3,x7,x6,cD]
      refine AM.callI_of (shownS RR (goodLate (l:=nl) (by omega) fun v hv=>by have:=hnb v hv;omega) (by decide) (showLate nl (by omega)).1 (steps:=200)) ?_
      rintro tv h13 ⟨F13,s13,f13⟩
      have c13:=SlRd.cl s13.rd
      simp -implicitDefEqProofs (disch:=first|exact dz _|fail) only [↓AM.R0,AM.R1,AM.R2,qA,qB,qC,qD,qE,↓reduceIte,qG,qH,qI,x0,x3,x7,x6,cD,c13]
      refine AM.callI_of (sameTrace s13.rd (sD.rd.keep ((f11.trans f12).trans (hfNon f13))) (by rw [←eD,List.length_append,List.length_map,List.length_reverse,List.length_take];simp only [List.length_cons,List.length_nil];omega)) ?_
      rintro r h14 ⟨rfl,rfl⟩
      simp -implicitDefEqProofs (disch:=first|exact dz _|fail) only [↓AM.R0,AM.R1,AM.R2,qA,qB,qC,qD,qE,↓reduceIte,qG,qH,qI]
      subst hQ
      first | rfl | exact congrArg AVal.bool (decide_eq_true rfl)
end Go.Proofs.Ytnbnpjhlflcjeaa.Id