/-
 What the functions of this seat do,on the machine: lemmas for the laws.
-/
import Derived.Test.YtnbnpjhlflcjeaaNJX6
import Derived.Test.YtnbnpjhlflcjeaaNJX11
set_option linter.unusedSimpArgs false
set_option linter.unusedVariables false
set_option maxRecDepth 100000
attribute [local irreducible] Go.AM.wp Go.AM.wpIs Go.AM.wpTr Go.AM.opI Go.AM.gI Go.AM.cI Go.AM.trI Go.AM.callI Go.AM.fnI Go.AM.yldI Go.AM.rangeI Go.AM.rangeC Go.AM.YldP Go.AM.asgQ Go.AM.roundQ Go.AM.rangeQ Go.AM.trG Go.AM.trOp Go.AM.trCall Go.AM.seqC Go.AM.loopI
namespace Go.Proofs.Ytnbnpjhlflcjeaa.Id
open Go Go.AM Go.Proofs.Ytnbnpjhlflcjeaa.AmGJ
open Nat renaming reduceAdd → qA,reduceLeDiff → qB,reduceEqDiff → qC,reduceLT → qE
open Int renaming reduceToNat → qD,reduceEq → qG,reduceLT → qH,reduceLE → qI
theorem wrap_i64 {n:Int} (h1:-9223372036854775808≤n) (h2:n≤9223372036854775807):IntKind.i64.wrap n=n:=by
 rw [wrap_eq];simp only;split<;>omega
theorem u64_nat (x:Int):∃ n:Nat,IntKind.u64.wrap x=n∧n≤18446744073709551615:=by
 refine ⟨(IntKind.u64.wrap x).toNat,?_,?_⟩<;>rw [wrap_eq]<;>simp only<;>omega
theorem i64_u64 (x:Int):IntKind.i64.wrap (IntKind.u64.wrap x)=IntKind.i64.wrap x:=by
 simp only [wrap_eq,Int.emod_emod]
theorem sameLit {h:AHeap} {tv:AVal} {l:List (Int×Int×Int)} {vs:List AVal} (s:SlRd h 3 encE tv l) (m:List (Int×Int×Int)) (hv:vs=m.flatMap encE) (hb:l.length<1000000):CallP AP 19 [tv,.sl h.n 0 0 m.length 3] (h.push (.cells 0 false vs)) fun r h'=>r=.bool (decide (l=m))∧HFrame h h' [] []:=by
 have f:HFrame h (h.push (.cells 0 false vs)) [] []:=by (repeat (first | with_reducible apply HFrame.pushTmp | with_reducible refine HFrame.setTmp ?_ (by omega) _ | with_reducible exact HFrame.refl (by simp)))
 refine (sameTrace (s.keep f) (SlRd.litE (AHeap.get_push_same _ _) hv (Nat.lt_succ_self _)) hb).mono ?_
 rintro r h' ⟨rfl,rfl⟩
 exact ⟨rfl,f⟩
end Go.Proofs.Ytnbnpjhlflcjeaa.Id
namespace Go.Proofs.Ytnbnpjhlflcjeaa.Id
open Go Go.AM Go.Proofs.Ytnbnpjhlflcjeaa.AmGJ
open Nat renaming reduceAdd → qA,reduceLeDiff → qB,reduceEqDiff → qC,reduceLT → qE
open Int renaming reduceToNat → qD,reduceEq → qG,reduceLT → qH,reduceLE → qI
/-! IdealPanics. -/
def cPan (x:Nat):Nat→List PIns
 | 0=>[⟨1,1,0,0,x,[]⟩,⟨39,1,0,0,0,[]⟩]
 | 1=>[⟨6,0,0,0,0,[]⟩,⟨36,0,0,0,0,[]⟩]
 | 2=>[⟨29,0,7,0,0,[]⟩,⟨36,0,0,0,0,[]⟩]
 | 3=>[⟨30,7,0,0,0,[]⟩,⟨36,0,0,0,0,[]⟩]
 | 4=>[⟨28,0,8,0,0,[]⟩,⟨36,0,0,0,0,[]⟩]
 | 5=>[⟨1,1,0,0,2,[]⟩,⟨27,8,1,1,0,[]⟩,⟨31,0,8,1,0,[]⟩,⟨36,0,0,0,0,[]⟩]
 | 6=>[⟨1,1,0,0,18446744073709551615,[]⟩,⟨27,8,1,1,0,[]⟩,⟨36,0,0,0,0,[]⟩]
 | 7=>[⟨1,1,0,0,1024,[]⟩,⟨27,8,1,1,0,[]⟩,⟨36,0,0,0,0,[]⟩]
 | 8=>[⟨44,9,0,0,0,[]⟩,⟨36,0,0,0,0,[]⟩]
 | 9=>[⟨41,9,0,0,0,[]⟩,⟨44,9,0,0,0,[]⟩,⟨44,9,0,0,0,[]⟩,⟨36,0,0,0,0,[]⟩]
 | 10=>[⟨41,9,0,0,1,[]⟩,⟨44,9,0,0,0,[]⟩,⟨42,9,0,0,0,[]⟩,⟨36,0,0,0,0,[]⟩]
 | _=>[⟨7,1,1,0,0,[]⟩,⟨36,0,0,0,0,[]⟩]
def nPan (x:Int):Nat→Int
 | 0=>x
 | 1=>-3 | 2=>-1 | 3=>-1 | 4=>-1 | 5=>-2 | 6=>-2 | 7=>-2 | 8=>-1 | 9=>-4 | 10=>-4 | _=>-3
def tPan (s:Bool) (w:Int):List (Int×Int×Int):=if s then [(1,0,w),(1,0,1),(3,0,0)] else [(4,0,w)]
def rPan (s:Bool) (c:List PIns):List PIns:=if s then ⟨38,2,0,0,0,[0]⟩::c else c
theorem showPan0 (x:Nat) (hx:x≤18446744073709551615) (s:Bool):goodP (pOne (rPan s (cPan x 0)))=true∧showF (pOne (rPan s (cPan x 0))) 20=some (tPan s (u64 (i64 x))):=by
 refine ⟨?_,by cases s<;>kernel_rfl⟩
 simp only [goodP,Bool.and_eq_true,decide_eq_true_eq]
 refine ⟨⟨?_,by cases s<;>kernel_rfl⟩,by cases s<;>kernel_rfl⟩
 cases s<;>simp only [rPan,cPan,okP,okF,okI,pOne,List.all_cons,List.all_nil,hx,Bool.and_true,Bool.true_and,decide_true,if_true,Bool.false_eq_true,if_false]<;>kernel_rfl
theorem showPan (x:Nat) (s:Bool):∀ k,0<k→k<12→goodP (pOne (rPan s (cPan x k)))=true∧showF (pOne (rPan s (cPan x k))) 20=some (tPan s (u64 (nPan x k)))
 | 0,h,_=>absurd h (by omega)
 | 1,_,_=>by cases s<;>exact ⟨by kernel_rfl,by kernel_rfl⟩
 | 2,_,_=>by cases s<;>exact ⟨by kernel_rfl,by kernel_rfl⟩
 | 3,_,_=>by cases s<;>exact ⟨by kernel_rfl,by kernel_rfl⟩
 | 4,_,_=>by cases s<;>exact ⟨by kernel_rfl,by kernel_rfl⟩
 | 5,_,_=>by cases s<;>exact ⟨by kernel_rfl,by kernel_rfl⟩
 | 6,_,_=>by cases s<;>exact ⟨by kernel_rfl,by kernel_rfl⟩
 | 7,_,_=>by cases s<;>exact ⟨by kernel_rfl,by kernel_rfl⟩
 | 8,_,_=>by cases s<;>exact ⟨by kernel_rfl,by kernel_rfl⟩
 | 9,_,_=>by cases s<;>exact ⟨by kernel_rfl,by kernel_rfl⟩
 | 10,_,_=>by cases s<;>exact ⟨by kernel_rfl,by kernel_rfl⟩
 | 11,_,_=>by cases s<;>exact ⟨by kernel_rfl,by kernel_rfl⟩
 | n+12,_,h=>absurd h (by omega)
end Go.Proofs.Ytnbnpjhlflcjeaa.Id
namespace Go.Proofs.Ytnbnpjhlflcjeaa.Id
open Go Go.AM Go.Proofs.Ytnbnpjhlflcjeaa.AmGJ
open Nat renaming reduceAdd → qA,reduceLeDiff → qB,reduceEqDiff → qC,reduceLT → qE
open Int renaming reduceToNat → qD,reduceEq → qG,reduceLT → qH,reduceLE → qI
theorem RowsOf.appR {α:Type} {m:Nat} {R:α→List AVal→Prop} {h:AHeap} {v y:AVal} {l l2:List α} {F:List Nat} (s:RowsOf h m R v l F) (t:SlR h m R y l2) (hne:l2≠[]) (hc:∀ a row,R a row→row.all (·.cell)=true) {bytes:Nat} (hb:(l.length+l2.length)*bytes≤1099511627776) {k:AVal→AHeap→Prop}
  (w:∀ v' h' F',RowsOf h' m R v' (l++l2) F'→HFrame h h' F F'→k v' h'):AM.wpOp (h.app m bytes v y) k:=by
 obtain ⟨rows,s1,s2,s3⟩:=s
 obtain ⟨rows2,t1,t2,t3⟩:=SlR.rows t hc
 have t4:SlRd h m (fun r:Row m=>r.1) y rows2:=by
  rcases t1 with t1 | ⟨e,_⟩
  ·exact t1
  ·subst e;exact absurd (List.eq_nil_of_length_eq_zero t2.symm) hne
 refine SlOf.app (enc:=fun r:Row m=>r.1) s1 t4 (fun a=>a.2.1) (fun a=>a.2.2) (by rw [s2,t2];exact hb) fun v' h' F' s' f'=>w v' h' F' ⟨_,s',by simp [s2,t2],fun i b r' hi hj=>?_⟩ f'
 by_cases hlt:i<l.length
 ·rw [List.getElem?_append_left hlt] at hi
  rw [List.getElem?_append_left (by omega)] at hj
  exact s3 i b r' hi hj
 ·rw [List.getElem?_append_right (by omega)] at hi
  rw [List.getElem?_append_right (by omega)] at hj
  rw [s2] at hj
  exact t3 _ b r' hi hj
theorem InsR.cl {h:AHeap} {i:PIns} {row:List AVal} (r:InsR h i row):row.all (·.cell)=true:=by
 obtain ⟨_,v,rfl,s⟩:=r
 have:=SlIn.cellv s
 simp only [List.all_cons,List.all_nil,this];rfl
theorem cPan_len (x:Nat):∀ k,(cPan x k).length≤4∧cPan x k≠[]
 | 0=>⟨by simp [cPan],by simp [cPan]⟩
 | 1=>⟨by simp [cPan],by simp [cPan]⟩
 | 2=>⟨by simp [cPan],by simp [cPan]⟩
 | 3=>⟨by simp [cPan],by simp [cPan]⟩
 | 4=>⟨by simp [cPan],by simp [cPan]⟩
 | 5=>⟨by simp [cPan],by simp [cPan]⟩
 | 6=>⟨by simp [cPan],by simp [cPan]⟩
 | 7=>⟨by simp [cPan],by simp [cPan]⟩
 | 8=>⟨by simp [cPan],by simp [cPan]⟩
 | 9=>⟨by simp [cPan],by simp [cPan]⟩
 | 10=>⟨by simp [cPan],by simp [cPan]⟩
 | _+11=>⟨by simp [cPan],by simp [cPan]⟩
theorem nPan_eq (x y:Int):∀ k,0<k→nPan x k=nPan y k
 | 0,h=>absurd h (by omega)
 | 1,_=>rfl
 | 2,_=>rfl
 | 3,_=>rfl
 | 4,_=>rfl
 | 5,_=>rfl
 | 6,_=>rfl
 | 7,_=>rfl
 | 8,_=>rfl
 | 9,_=>rfl
 | 10,_=>rfl
 | _+11,_=>rfl
theorem showPanW {x:Int} {nx:Nat} (ix:IntKind.i64.wrap nx=x) (lx:nx≤18446744073709551615) (s:Bool) (k:Nat) (hk:k<12):goodP (pOne (rPan s (cPan nx k)))=true∧showF (pOne (rPan s (cPan nx k))) 20=some (tPan s (IntKind.u64.wrap (nPan x k))):=by
 cases k with
 | zero =>
  have:=showPan0 nx lx s
  rw [show i64 (nx:Int)=x from ix] at this
  exact this
 | succ k =>
  have:=showPan nx s (k+1) (by omega) hk
  rw [nPan_eq nx x (k+1) (by omega)] at this
  exact this
set_option maxHeartbeats 2000000 in
theorem lawPanics (a x:Int) (b:Bool) (ha:0≤a∧a≤255) (hx:-9223372036854775808≤x∧x≤9223372036854775807) (h:AHeap):CallP AP 6 [.int .u8 a,.int .i64 x,.bool b] h fun r h'=>r=.bool true∧HFrame h h' [] []:=by
 refine callP (rfl:Tr.get AP 6=some A6) ?_
 generalize hQ:(fun (r:AVal) (h':AHeap)=>_)=Q
 obtain ⟨n,en,hn⟩:∃ n:Nat,a.tmod 12=(n:Int)∧n<12:=⟨(a.tmod 12).toNat,by rw [Int.tmod_eq_emod_of_nonneg ha.1];omega,by rw [Int.tmod_eq_emod_of_nonneg ha.1];omega⟩
 have e1:IntKind.i64.wrap a=a:=wrap_i64 (by omega) (by omega)
 have en':a.tmod ((12:Nat):Int)=(n:Int):=en
 simp -implicitDefEqProofs (disch:=first|exact dz _|fail) only [↓AM.R0,AM.R1,AM.R2,qA,qB,qC,qD,qE,↓reduceIte,qG,qH,qI,AM.a_buildSlice,List.range,List.range.loop,List.getD_cons_zero,List.getD_cons_succ,Nat.mod_one,Nat.reduceMod,Nat.reduceMul,en,en',e1]
 obtain ⟨nx,ex,lx⟩:∃ n:Nat,IntKind.u64.wrap x=n∧n≤18446744073709551615:=u64_nat x
 rw [ex]
 have lx':(nx:Int)≤18446744073709551615:=by omega
 have ix:IntKind.i64.wrap nx=x:=by rw [←ex,i64_u64,wrap_i64 hx.1 hx.2]
 generalize hhA:(AHeap.push (AHeap.push _ (.cells 0 false [.sl (h.n) 0 0 2 6,.sl (h.n+1) 0 0 2 6,.sl (h.n+1+1) 0 0 2 6,.sl (h.n+1+1+1) 0 0 2 6,.sl (h.n+1+1+1+1) 0 0 2 6,.sl (h.n+1+1+1+1+1) 0 0 4 6,.sl (h.n+1+1+1+1+1+1) 0 0 3 6,.sl (h.n+1+1+1+1+1+1+1) 0 0 3 6,.sl (h.n+1+1+1+1+1+1+1+1) 0 0 2 6,.sl (h.n+1+1+1+1+1+1+1+1+1) 0 0 4 6,.sl (h.n+1+1+1+1+1+1+1+1+1+1) 0 0 4 6,.sl (h.n+1+1+1+1+1+1+1+1+1+1+1) 0 0 2 6])) _)=hA
 have gS:hA.get (h.n+1+1+1+1+1+1+1+1+1+1+1+1)=.cells 0 false [.sl (h.n) 0 0 2 6,.sl (h.n+1) 0 0 2 6,.sl (h.n+1+1) 0 0 2 6,.sl (h.n+1+1+1) 0 0 2 6,.sl (h.n+1+1+1+1) 0 0 2 6,.sl (h.n+1+1+1+1+1) 0 0 4 6,.sl (h.n+1+1+1+1+1+1) 0 0 3 6,.sl (h.n+1+1+1+1+1+1+1) 0 0 3 6,.sl (h.n+1+1+1+1+1+1+1+1) 0 0 2 6,.sl (h.n+1+1+1+1+1+1+1+1+1) 0 0 4 6,.sl (h.n+1+1+1+1+1+1+1+1+1+1) 0 0 4 6,.sl (h.n+1+1+1+1+1+1+1+1+1+1+1) 0 0 2 6]:=by rw [←hhA];simp -implicitDefEqProofs (disch:=first|exact dz _|fail) only [↓AM.R0,AM.R1,AM.R2,qA,qB,qC,qD,qE,↓reduceIte,qG,qH,qI]
 have gN:hA.get (h.n+1+1+1+1+1+1+1+1+1+1+1+1+1)=.cells 0 false [.int .i64 x,.int .i64 (-3),.int .i64 (-1),.int .i64 (-1),.int .i64 (-1),.int .i64 (-2),.int .i64 (-2),.int .i64 (-2),.int .i64 (-1),.int .i64 (-4),.int .i64 (-4),.int .i64 (-3)]:=by rw [←hhA];simp -implicitDefEqProofs (disch:=first|exact dz _|fail) only [↓AM.R0,AM.R1,AM.R2,qA,qB,qC,qD,qE,↓reduceIte,qG,qH,qI]
 have nA:hA.n=h.n+1+1+1+1+1+1+1+1+1+1+1+1+1+1:=by rw [←hhA];simp -implicitDefEqProofs (disch:=first|exact dz _|fail) only [↓AM.R0,AM.R1,AM.R2,qA,qB,qC,qD,qE,↓reduceIte,qG,qH,qI]
 have fA:HFrame h hA [] []:=by rw [←hhA];(repeat (first | with_reducible apply HFrame.pushTmp | with_reducible refine HFrame.setTmp ?_ (by omega) _ | with_reducible exact HFrame.refl (by simp)))
 have K:∀ k,k<12→∃ v,([.sl (h.n) 0 0 2 6,.sl (h.n+1) 0 0 2 6,.sl (h.n+1+1) 0 0 2 6,.sl (h.n+1+1+1) 0 0 2 6,.sl (h.n+1+1+1+1) 0 0 2 6,.sl (h.n+1+1+1+1+1) 0 0 4 6,.sl (h.n+1+1+1+1+1+1) 0 0 3 6,.sl (h.n+1+1+1+1+1+1+1) 0 0 3 6,.sl (h.n+1+1+1+1+1+1+1+1) 0 0 2 6,.sl (h.n+1+1+1+1+1+1+1+1+1) 0 0 4 6,.sl (h.n+1+1+1+1+1+1+1+1+1+1) 0 0 4 6,.sl (h.n+1+1+1+1+1+1+1+1+1+1+1) 0 0 2 6]:List AVal)[k]?=some v∧SlR hA 6 (InsR hA) v (cPan nx k)∧([.int .i64 x,.int .i64 (-3),.int .i64 (-1),.int .i64 (-1),.int .i64 (-1),.int .i64 (-2),.int .i64 (-2),.int .i64 (-2),.int .i64 (-1),.int .i64 (-4),.int .i64 (-4),.int .i64 (-3)]:List AVal)[k]?=some (.int .i64 (nPan x k)):=by
  intro k hk
  rcases k with _ | _ | _ | _ | _ | _ | _ | _ | _ | _ | _ | _ | k
  all_goals first | omega | refine ⟨_,rfl,rdC_ok ?_,rfl⟩
  all_goals (rw [←hhA];simp -implicitDefEqProofs (disch:=first|exact dz _|fail) only [↓AM.R0,AM.R1,AM.R2,qA,qB,qC,qD,qE,↓reduceIte,qG,qH,qI,rdP,rdI,rdS,cellsOf,Option.bind,typsV,intsV,funsV,inssV,ltI,if_true,and_self,and_true,true_and,List.length_cons,List.length_nil,Nat.reduceAdd,Nat.reduceMul,Int.reduceLE,Int.toNat_natCast,Int.reduceToNat,lx',Int.natCast_nonneg];rfl)
 clear hhA
 obtain ⟨v,v1,v2,v3⟩:=K n hn
 clear K
 generalize hVS:([.sl (h.n) 0 0 2 6,.sl (h.n+1) 0 0 2 6,.sl (h.n+1+1) 0 0 2 6,.sl (h.n+1+1+1) 0 0 2 6,.sl (h.n+1+1+1+1) 0 0 2 6,.sl (h.n+1+1+1+1+1) 0 0 4 6,.sl (h.n+1+1+1+1+1+1) 0 0 3 6,.sl (h.n+1+1+1+1+1+1+1) 0 0 3 6,.sl (h.n+1+1+1+1+1+1+1+1) 0 0 2 6,.sl (h.n+1+1+1+1+1+1+1+1+1) 0 0 4 6,.sl (h.n+1+1+1+1+1+1+1+1+1+1) 0 0 4 6,.sl (h.n+1+1+1+1+1+1+1+1+1+1+1) 0 0 2 6]:List AVal)=VS at *
 generalize hNS:([.int .i64 x,.int .i64 (-3),.int .i64 (-1),.int .i64 (-1),.int .i64 (-1),.int .i64 (-2),.int .i64 (-2),.int .i64 (-2),.int .i64 (-1),.int .i64 (-4),.int .i64 (-4),.int .i64 (-3)]:List AVal)=NS at *
 cases b
 ·obtain ⟨q1,q2⟩:=showPanW ix lx false n hn
  simp -implicitDefEqProofs (disch:=first|exact dz _|fail) only [↓AM.R0,AM.R1,AM.R2,qA,qB,qC,qD,qE,↓reduceIte,qG,qH,qI,AM.a_buildSlice,List.range,List.range.loop,List.getD_cons_zero,List.getD_cons_succ,Nat.mod_one,Nat.reduceMod,Nat.reduceMul,gS,v1]
  refine AM.opI_of (RowsOf.appR (R:=InsR hA) RowsOf.nil v2 (cPan_len nx n).2 (fun _ _ q=>InsR.cl q) (Nat.le_trans (Nat.mul_le_mul_right _ (Nat.add_le_add_left (cPan_len nx n).1 _)) (by decide)) fun c hC F RC fC=>?_)
  have f0:=fA
  have gN1:=gN
  have cc:=RC.cells.2
  have RI:SlR hC 6 (InsR hC) c (rPan false (cPan nx n)):=RC.slR.mono (fun _ _ q=>q.mono fC.n fun j hj=>fC.get j hj (by simp)) (Nat.le_refl _) fun _ _=>rfl
  have gN2:=(fC.get _ (by omega) (by simp)).trans gN1
  have nC:=fC.n
  simp -implicitDefEqProofs (disch:=first|exact dz _|fail) only [↓AM.R0,AM.R1,AM.R2,qA,qB,qC,qD,qE,↓reduceIte,qG,qH,qI,AM.a_buildSlice,List.range,List.range.loop,List.getD_cons_zero,List.getD_cons_succ,Nat.mod_one,Nat.reduceMod,Nat.reduceMul,cc]
  refine AM.callI_of (one RI) ?_
  rintro r h3 ⟨f3,row,rfl,RR⟩
  simp -implicitDefEqProofs (disch:=first|exact dz _|fail) only [↓AM.R0,AM.R1,AM.R2,qA,qB,qC,qD,qE,↓reduceIte,qG,qH,qI,AM.a_buildSlice,List.range,List.range.loop,List.getD_cons_zero,List.getD_cons_succ,Nat.mod_one,Nat.reduceMod,Nat.reduceMul]
  refine AM.callI_of (shownS RR q1 (by decide) q2 (steps:=20)) ?_
  rintro tv h4 ⟨F4,s4,f4⟩
  have ct:=SlRd.cl s4.rd
  have n3:=f3.n
  have n4:=f4.n
  have gN3:=(f3.get _ (by omega) (by simp)).trans gN2
  have gN4:=(f4.get _ (by omega) (by simp)).trans gN3
  simp -implicitDefEqProofs (disch:=first|exact dz _|fail) only [↓AM.R0,AM.R1,AM.R2,qA,qB,qC,qD,qE,↓reduceIte,qG,qH,qI,AM.a_buildSlice,List.range,List.range.loop,List.getD_cons_zero,List.getD_cons_succ,Nat.mod_one,Nat.reduceMod,Nat.reduceMul,ct,gN4,v3]
  refine AM.callI_of (awake h4) ?_
  rintro r h5 ⟨rfl,f5⟩
  simp -implicitDefEqProofs (disch:=first|exact dz _|fail) only [↓AM.R0,AM.R1,AM.R2,qA,qB,qC,qD,qE,↓reduceIte,qG,qH,qI,AM.a_buildSlice,List.range,List.range.loop,List.getD_cons_zero,List.getD_cons_succ,Nat.mod_one,Nat.reduceMod,Nat.reduceMul,ct]
  refine AM.callI_of (sameLit (s4.rd.keep f5) [(4,0,_)] rfl (by simp [tPan])) ?_
  rintro r h6 ⟨rfl,f6⟩
  simp -implicitDefEqProofs (disch:=first|exact dz _|fail) only [↓AM.R0,AM.R1,AM.R2,qA,qB,qC,qD,qE,↓reduceIte,qG,qH,qI,AM.a_buildSlice,List.range,List.range.loop,List.getD_cons_zero,List.getD_cons_succ,Nat.mod_one,Nat.reduceMod,Nat.reduceMul]
  subst hQ
  exact ⟨by first | rfl | exact congrArg AVal.bool (decide_eq_true rfl),((((f0.trans (hfNon fC)).trans f3).trans (hfNon f4)).trans f5).trans f6⟩
 ·obtain ⟨q1,q2⟩:=showPanW ix lx true n hn
  simp -implicitDefEqProofs (disch:=first|exact dz _|fail) only [↓AM.R0,AM.R1,AM.R2,qA,qB,qC,qD,qE,↓reduceIte,qG,qH,qI,AM.a_buildSlice,List.range,List.range.loop,List.getD_cons_zero,List.getD_cons_succ,Nat.mod_one,Nat.reduceMod,Nat.reduceMul]
  generalize hhB:((hA.push (.cells 0 false [.int .i64 0])).push (.cells 0 false [.int .i64 38,.int .i64 2,.int .i64 0,.int .i64 0,.int .u64 0,.sl hA.n 0 0 1 1]))=hB
  have fB:HFrame hA hB [] []:=by rw [←hhB];(repeat (first | with_reducible apply HFrame.pushTmp | with_reducible refine HFrame.setTmp ?_ (by omega) _ | with_reducible exact HFrame.refl (by simp)))
  have nB:hB.n=hA.n+1+1:=by rw [←hhB];simp -implicitDefEqProofs (disch:=first|exact dz _|fail) only [↓AM.R0,AM.R1,AM.R2,qA,qB,qC,qD,qE,↓reduceIte,qG,qH,qI]
  have R1:SlR hB 6 (InsR hB) (.sl (hA.n+1) 0 0 1 6) [⟨38,2,0,0,0,[0]⟩]:=rdC_ok (by rw [←hhB];simp -implicitDefEqProofs (disch:=first|exact dz _|fail) only [↓AM.R0,AM.R1,AM.R2,qA,qB,qC,qD,qE,↓reduceIte,qG,qH,qI,rdP,rdI,rdS,cellsOf,Option.bind,typsV,intsV,funsV,inssV,ltI,if_true,and_self,and_true,true_and,List.length_cons,List.length_nil,Nat.reduceAdd,Nat.reduceMul,Int.reduceLE,Int.toNat_natCast,Int.reduceToNat])
  clear hhB
  refine AM.opI_of (RowsOf.appR (R:=InsR hB) RowsOf.nil R1 (List.cons_ne_nil _ _) (fun _ _ q=>InsR.cl q) (by decide) fun c0 hD F0 RD fD=>?_)
  have cd:=RD.cells.2
  have nD:=fD.n
  have gS1:=(fD.get _ (by omega) (by simp)).trans ((fB.get _ (by omega) (by simp)).trans gS)
  simp -implicitDefEqProofs (disch:=first|exact dz _|fail) only [↓AM.R0,AM.R1,AM.R2,qA,qB,qC,qD,qE,↓reduceIte,qG,qH,qI,AM.a_buildSlice,List.range,List.range.loop,List.getD_cons_zero,List.getD_cons_succ,Nat.mod_one,Nat.reduceMod,Nat.reduceMul,cd,gS1,v1]
  have v2':SlR hD 6 (InsR hB) v (cPan nx n):=v2.mono (fun _ _ q=>q.mono fB.n fun j hj=>fB.get j hj (by simp)) (by have:=fB.n;omega) fun j hj=>(fD.get j (by omega) (by simp)).trans (fB.get j hj (by simp))
  refine AM.opI_of (RowsOf.appR RD v2' (cPan_len nx n).2 (fun _ _ q=>InsR.cl q) (Nat.le_trans (Nat.mul_le_mul_right _ (Nat.add_le_add_left (cPan_len nx n).1 _)) (by decide)) fun c hC F RC fC'=>?_)
  have fC:HFrame hB hC [] F:=fD.trans fC'
  have f0:=fA.trans fB
  have gN1:=(fB.get _ (by omega) (by simp)).trans gN
  have cc:=RC.cells.2
  have RI:SlR hC 6 (InsR hC) c (rPan true (cPan nx n)):=RC.slR.mono (fun _ _ q=>q.mono fC.n fun j hj=>fC.get j hj (by simp)) (Nat.le_refl _) fun _ _=>rfl
  have gN2:=(fC.get _ (by omega) (by simp)).trans gN1
  have nC:=fC.n
  simp -implicitDefEqProofs (disch:=first|exact dz _|fail) only [↓AM.R0,AM.R1,AM.R2,qA,qB,qC,qD,qE,↓reduceIte,qG,qH,qI,AM.a_buildSlice,List.range,List.range.loop,List.getD_cons_zero,List.getD_cons_succ,Nat.mod_one,Nat.reduceMod,Nat.reduceMul,cc]
  refine AM.callI_of (one RI) ?_
  rintro r h3 ⟨f3,row,rfl,RR⟩
  simp -implicitDefEqProofs (disch:=first|exact dz _|fail) only [↓AM.R0,AM.R1,AM.R2,qA,qB,qC,qD,qE,↓reduceIte,qG,qH,qI,AM.a_buildSlice,List.range,List.range.loop,List.getD_cons_zero,List.getD_cons_succ,Nat.mod_one,Nat.reduceMod,Nat.reduceMul]
  refine AM.callI_of (shownS RR q1 (by decide) q2 (steps:=20)) ?_
  rintro tv h4 ⟨F4,s4,f4⟩
  have ct:=SlRd.cl s4.rd
  have n3:=f3.n
  have n4:=f4.n
  have gN3:=(f3.get _ (by omega) (by simp)).trans gN2
  have gN4:=(f4.get _ (by omega) (by simp)).trans gN3
  simp -implicitDefEqProofs (disch:=first|exact dz _|fail) only [↓AM.R0,AM.R1,AM.R2,qA,qB,qC,qD,qE,↓reduceIte,qG,qH,qI,AM.a_buildSlice,List.range,List.range.loop,List.getD_cons_zero,List.getD_cons_succ,Nat.mod_one,Nat.reduceMod,Nat.reduceMul,ct,gN4,v3]
  refine AM.callI_of (awake h4) ?_
  rintro r h5 ⟨rfl,f5⟩
  simp -implicitDefEqProofs (disch:=first|exact dz _|fail) only [↓AM.R0,AM.R1,AM.R2,qA,qB,qC,qD,qE,↓reduceIte,qG,qH,qI,AM.a_buildSlice,List.range,List.range.loop,List.getD_cons_zero,List.getD_cons_succ,Nat.mod_one,Nat.reduceMod,Nat.reduceMul,ct]
  refine AM.callI_of (sameLit (s4.rd.keep f5) [(1,0,_),(1,0,1),(3,0,0)] rfl (by simp [tPan])) ?_
  rintro r h6 ⟨rfl,f6⟩
  simp -implicitDefEqProofs (disch:=first|exact dz _|fail) only [↓AM.R0,AM.R1,AM.R2,qA,qB,qC,qD,qE,↓reduceIte,qG,qH,qI,AM.a_buildSlice,List.range,List.range.loop,List.getD_cons_zero,List.getD_cons_succ,Nat.mod_one,Nat.reduceMod,Nat.reduceMul]
  subst hQ
  exact ⟨by first | rfl | exact congrArg AVal.bool (decide_eq_true rfl),((((f0.trans (hfNon fC)).trans f3).trans (hfNon f4)).trans f5).trans f6⟩
end Go.Proofs.Ytnbnpjhlflcjeaa.Id