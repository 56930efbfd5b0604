/-
 What the functions of this seat do,on the machine: lemmas for the laws.
-/
import Derived.Test.YthillgheddpmhaaDoorMX5
set_option linter.unusedSimpArgs false
set_option linter.unusedVariables false
set_option maxRecDepth 100000
attribute [local irreducible] Go.AM.wp Go.AM.wpIs Go.AM.wpTr Go.AM.opI Go.AM.gI Go.AM.cI Go.AM.trI Go.AM.callI Go.AM.fnI Go.AM.yldI Go.AM.rangeI Go.AM.rangeC Go.AM.YldP Go.AM.asgQ Go.AM.roundQ Go.AM.rangeQ Go.AM.trG Go.AM.trOp Go.AM.trCall Go.AM.seqC Go.AM.loopI
namespace Go.Proofs.YthillgheddpmhaaDoor.Pg
def ctz:Nat→Nat→Nat
 | 0,_=>0
 | n+1,w=>if w%2=1 then 0 else ctz n (w / 2)+1
theorem ctz_le:∀ n w,ctz n w≤n
 | 0,_=>Nat.le_refl _
 | n+1,w=>by unfold ctz;split<;>have:=ctz_le n (w / 2)<;>omega
theorem ctz_low:∀ n w j,j<ctz n w→w.testBit j=false
 | 0,w,j,h=>by simp [ctz] at h
 | n+1,w,j,h=>by
  unfold ctz at h
  split at h
  ·omega
  ·rename_i h2
   cases j with
   | zero=>rw [Nat.testBit_zero];simp;omega
   | succ j=>rw [Nat.testBit_succ];exact ctz_low n (w / 2) j (by omega)
theorem ctz_at:∀ n w,ctz n w<n→w.testBit (ctz n w)=true
 | 0,w,h=>by simp at h
 | n+1,w,h=>by
  unfold ctz at h ⊢
  split
  ·rename_i h2;rw [Nat.testBit_zero];simp;omega
  ·rename_i h2
   rw [if_neg h2] at h
   rw [Nat.testBit_succ]
   exact ctz_at n (w / 2) (by omega)
theorem ctz_zero:∀ n,ctz n 0=n
 | 0=>rfl
 | n+1=>by unfold ctz;rw [if_neg (by decide),ctz_zero n]
theorem ctz_lt {n w:Nat} (h0:w≠0) (h:w<2^n):ctz n w<n:=by
 rcases Nat.lt_or_ge (ctz n w) n with q | q
 ·exact q
 ·exfalso
  apply h0
  apply Nat.eq_of_testBit_eq
  intro j
  rw [Nat.zero_testBit]
  by_cases hj:j<n
  ·exact ctz_low n w j (by have:=ctz_le n w;omega)
  ·exact Nat.testBit_lt_two_pow (Nat.lt_of_lt_of_le h (Nat.pow_le_pow_right (by decide) (by omega)))
theorem and_split (a b:Nat):a &&& b=2*(a / 2 &&& b / 2)+(a%2)*(b%2):=by
 apply Nat.eq_of_testBit_eq
 intro j
 have ha:=Nat.mod_two_eq_zero_or_one a
 have hb:=Nat.mod_two_eq_zero_or_one b
 have hx:(a%2)*(b%2)<2:=by rcases ha with e | e<;>rcases hb with f | f<;>rw [e,f]<;>decide
 cases j with
 | zero =>
  rw [Nat.testBit_and,Nat.testBit_zero,Nat.testBit_zero,Nat.testBit_zero]
  rcases ha with e | e<;>rcases hb with f | f<;>simp [e,f]<;>omega
 | succ j =>
  rw [Nat.testBit_and,Nat.testBit_succ,Nat.testBit_succ,Nat.testBit_succ]
  have:(2*(a / 2 &&& b / 2)+(a%2)*(b%2)) / 2=(a / 2 &&& b / 2):=by omega
  rw [this,Nat.testBit_and]
theorem and_compl:∀ n v,v<2^n→v &&& (2^n-1-v)=0
 | 0,v,h=>by
  have:v=0:=by simpa using h
  subst this;rfl
 | n+1,v,h=>by
  have h2:2^(n+1)=2*2^n:=by rw [Nat.pow_succ];omega
  rw [and_split,show (2^(n+1)-1-v) / 2=2^n-1-v / 2 by omega,and_compl n (v / 2) (by omega)]
  rcases Nat.mod_two_eq_zero_or_one v with e | e
  ·rw [e];simp
  ·rw [show (2^(n+1)-1-v)%2=0 by omega];simp
theorem and_neg:∀ n w,w≠0→w<2^n→w &&& (2^n-w)=2^(ctz n w)
 | 0,w,h0,h=>by simp at h;omega
 | n+1,w,h0,h=>by
  have h2:2^(n+1)=2*2^n:=by rw [Nat.pow_succ];omega
  rw [and_split]
  unfold ctz
  split
  ·rename_i hodd
   rw [show (2^(n+1)-w) / 2=2^n-1-w / 2 by omega,and_compl n (w / 2) (by omega),hodd,show (2^(n+1)-w)%2=1 by omega]
  ·rename_i hev
   have e0:w%2=0:=by omega
   rw [show (2^(n+1)-w) / 2=2^n-w / 2 by omega,and_neg n (w / 2) (by omega) (by omega),e0,Nat.zero_mul,Nat.add_zero,Nat.pow_succ]
   omega
def blen (w:Nat):Nat:=if w=0 then 0 else w.log2+1
theorem blen_lt (w:Nat):w<2^blen w:=by
 unfold blen;split
 ·rename_i h;subst h;decide
 ·exact Nat.lt_log2_self
theorem blen_at {w:Nat} (h:w≠0):w.testBit (blen w-1)=true:=by
 unfold blen;rw [if_neg h,Nat.add_sub_cancel]
 have h1:=Nat.log2_self_le h
 have h2:w<2^(w.log2+1):=Nat.lt_log2_self
 rw [Nat.testBit_eq_decide_div_mod_eq]
 simp only [decide_eq_true_eq]
 have h3:w / 2^w.log2=1:=by
  have hp:0<2^w.log2:=Nat.pow_pos (by decide)
  have a1:1≤w / 2^w.log2:=(Nat.le_div_iff_mul_le hp).2 (by omega)
  have a2:w / 2^w.log2<2:=(Nat.div_lt_iff_lt_mul hp).2 (by rw [Nat.pow_succ] at h2;omega)
  omega
 rw [h3]
theorem blen_le {w n:Nat} (h:w<2^n):blen w≤n:=by
 unfold blen;split
 ·omega
 ·rename_i h0
  have:=Nat.log2_self_le h0
  have h3:2^w.log2<2^n:=by omega
  have:=(Nat.pow_lt_pow_iff_right (by decide:1<2)).1 h3
  omega
theorem blen_shift {w k:Nat} (h:2^k≤w):blen w=k+blen (w >>> k):=by
 have hk:0<2^k:=Nat.pow_pos (by decide)
 rw [Nat.shiftRight_eq_div_pow]
 have h0:w≠0:=by omega
 have h1:w / 2^k≠0:=by have:=(Nat.le_div_iff_mul_le hk (x:=1) (y:=w)).2 (by omega);omega
 unfold blen
 rw [if_neg h0,if_neg h1]
 have:w.log2=k+(w / 2^k).log2:=by
  have a1:=Nat.log2_self_le h1
  have a2:w / 2^k<2^((w / 2^k).log2+1):=Nat.lt_log2_self
  have b1:2^(k+(w / 2^k).log2)≤w:=by
   rw [Nat.pow_add,Nat.mul_comm];exact (Nat.le_div_iff_mul_le hk).1 a1
  have b2:w<2^(k+(w / 2^k).log2+1):=by
   rw [Nat.add_assoc,Nat.pow_add,Nat.mul_comm];exact (Nat.div_lt_iff_lt_mul hk).1 a2
  exact (Nat.log2_eq_iff h0).2 ⟨b1,b2⟩
 omega
end Go.Proofs.YthillgheddpmhaaDoor.Pg
namespace Go.Proofs.YthillgheddpmhaaDoor.Pg
open Go Go.AM Go.Proofs.YthillgheddpmhaaDoor.AmGJ
open Nat (reduceAdd reduceLeDiff reduceEqDiff)
open Int (reduceToNat reduceEq reduceLE)
theorem wrapN {w:Nat} (h:w<18446744073709551616):IntKind.u64.wrap (w:Int)=(w:Int):=wrapU64 (by omega) (by omega)
theorem ofN {w:Nat} (h:w<18446744073709551616):(BitVec.ofInt 64 (w:Int)).toNat=w:=by
 rw [BitVec.toNat_ofInt]
 have:((2^64:Nat):Int)=18446744073709551616:=by decide
 rw [this,Int.emod_eq_of_lt (by omega) (by omega)]
 simp
def ngV (h:AHeap) (x:AVal):Option (AVal×AHeap):=x.lit.bind fun a=>(ofSem (Op.unary .neg a)).map fun v=>(v,h)
theorem a_neg (e:Env) (h:AHeap) (x:AOpd):aop e h (.un .neg x)=ngV h (opd e x):=rfl
theorem ng_int {h:AHeap} {w:Nat} (h0:w≠0) (hw:w<18446744073709551616):ngV h (.int .u64 (w:Int))=some (.int .u64 ((18446744073709551616-w:Nat):Int),h):=by
 have e1:ngV h (.int .u64 (w:Int))=some (.int .u64 (IntKind.u64.wrap (0-(w:Int))),h):=rfl
 rw [e1]
 have:IntKind.u64.wrap (0-(w:Int))=((18446744073709551616-w:Nat):Int):=by
  have e2:IntKind.u64.wrap (0-(w:Int))=(0-(w:Int))%18446744073709551616:=rfl
  rw [e2]
  omega
 rw [this]
def cmV (h:AHeap) (x:AVal):Option (AVal×AHeap):=x.lit.bind fun a=>(ofSem (Op.unary .xor a)).map fun v=>(v,h)
theorem a_compl (e:Env) (h:AHeap) (x:AOpd):aop e h (.un .xor x)=cmV h (opd e x):=rfl
theorem cm_int {h:AHeap} {w:Nat} (hw:w<18446744073709551616):cmV h (.int .u64 (w:Int))=some (.int .u64 ((18446744073709551616-1-w:Nat):Int),h):=by
 have e1:cmV h (.int .u64 (w:Int))=some (.int .u64 (IntKind.u64.wrap ((BitVec.ofInt 64 (18446744073709551615:Int) ^^^ BitVec.ofInt 64 (w:Int)).toNat:Int)),h):=rfl
 rw [e1]
 have e2:BitVec.ofInt 64 (18446744073709551615:Int)=BitVec.allOnes 64:=by decide
 rw [e2,BitVec.allOnes_xor,BitVec.toNat_not,ofN hw]
 have:(2^64-1-w:Nat)=18446744073709551616-1-w:=rfl
 rw [this,wrapN (by omega)]
theorem an_int {h:AHeap} {a b:Nat} (ha:a<18446744073709551616) (hb:b<18446744073709551616):binV h .andNot (.int .u64 (a:Int)) (.int .u64 (b:Int))=some (.int .u64 ((a &&& (18446744073709551616-1-b):Nat):Int),h):=by
 have e1:binV h .andNot (.int .u64 (a:Int)) (.int .u64 (b:Int))=some (.int .u64 (IntKind.u64.wrap ((BitVec.ofInt 64 (a:Int) &&& ~~~ BitVec.ofInt 64 (b:Int)).toNat:Int)),h):=rfl
 rw [e1,BitVec.toNat_and,BitVec.toNat_not,ofN ha,ofN hb]
 have:(2^64-1-b:Nat)=18446744073709551616-1-b:=rfl
 rw [this,wrapN (Nat.lt_of_le_of_lt Nat.and_le_left ha)]
theorem and_nat {h:AHeap} {a b:Nat} (ha:a<18446744073709551616) (hb:b<18446744073709551616):binV h .and (.int .u64 (a:Int)) (.int .u64 (b:Int))=some (.int .u64 ((a &&& b:Nat):Int),h):=by
 have:=bin_and (h:=h) .u64 (a:Int) (b:Int) (by omega) (by show (a:Int)≤18446744073709551615;omega) (by omega) (by show (b:Int)≤18446744073709551615;omega)
 simpa using this
theorem or_nat {h:AHeap} {a b:Nat} (ha:a<18446744073709551616) (hb:b<18446744073709551616):binV h .or (.int .u64 (a:Int)) (.int .u64 (b:Int))=some (.int .u64 ((a ||| b:Nat):Int),h):=by
 have:=bin_or (h:=h) .u64 (a:Int) (b:Int) (by omega) (by show (a:Int)≤18446744073709551615;omega) (by omega) (by show (b:Int)≤18446744073709551615;omega)
 simpa using this
theorem shr_nat {h:AHeap} {a b:Nat} {l:IntKind} (hb:b≤64):binV h .shr (.int .u64 (a:Int)) (.int l (b:Int))=some (.int .u64 ((a >>> b:Nat):Int),h):=by
 have:=bin_shr (h:=h) .u64 l (a:Int) (b:Int) (by omega) (by omega) (by show (b:Int)≤64;omega)
 simpa using this
theorem kU {n:Nat} (h:n<18446744073709551616):(n:Int)≤(kMax .u64:Nat):=by show (n:Int)≤18446744073709551615;omega
abbrev tabN:List Int:=[0,1,56,2,57,49,28,3,61,58,42,50,38,29,17,4,62,47,59,36,45,43,51,22,53,39,33,30,24,18,12,5,63,55,48,27,60,41,37,16,46,35,44,21,52,32,23,11,54,26,40,15,34,20,31,10,25,14,19,9,13,8,7,6]
def TabR (h:AHeap):Prop:=h.get 0=.cells 0 true (tabN.map (AVal.int .u8 ·))∧0<h.n
theorem TabR.frame {h h':AHeap} {F F':List Nat} (T:TabR h) (f:HFrame h h' F F') (h0:0 ∉ F):TabR h':=⟨(f.get 0 T.2 h0).trans T.1,Nat.lt_of_lt_of_le T.2 f.n⟩
theorem deB:∀ j:Nat,j<64→(tabN.map (AVal.int .u8 ·))[(2^j*285870213051353865%18446744073709551616) >>> 58]?=some (.int .u8 (j:Int))∧(2^j*285870213051353865%18446744073709551616) >>> 58<64:=by
 have:∀ j:Fin 64,(tabN[(2^j.1*285870213051353865%18446744073709551616) >>> 58]?=some (j.1:Int))∧(2^j.1*285870213051353865%18446744073709551616) >>> 58<64:=by decide
 intro j hj
 obtain ⟨h1,h2⟩:=this ⟨j,hj⟩
 refine ⟨?_,h2⟩
 rw [List.getElem?_map,h1];rfl
theorem tz {h:AHeap} (T:TabR h) {w:Nat} (hw:w<18446744073709551616):CallP AP 70 [.int .u64 (w:Int)] h fun r h'=>h'=h∧r=.int .i64 (ctz 64 w:Nat):=by
 refine callP (rfl:Tr.get AP 70=some A70) ?_
 generalize hQ:(fun (r:AVal) (h':AHeap)=>_)=Q
 simp -implicitDefEqProofs (disch:=first|exact dz _|fail) only [↓AM.R0,AM.R1,AM.R2,reduceAdd,reduceLeDiff,reduceEqDiff,reduceToNat,Nat.reduceLT,↓reduceIte,reduceEq,Int.reduceLT,reduceLE]
 refine AM.cI_bool (fun hb=>?_) (fun hb=>?_)
 ·have h0:w=0:=by simpa using hb
  subst h0
  simp -implicitDefEqProofs (disch:=first|exact dz _|fail) only [↓AM.R0,AM.R1,AM.R2,reduceAdd,reduceLeDiff,reduceEqDiff,reduceToNat,Nat.reduceLT,↓reduceIte,reduceEq,Int.reduceLT,reduceLE]
  subst hQ
  exact ⟨rfl,by rw [ctz_zero];rfl⟩
 ·have h0:w≠0:=by simpa using hb
  have hlt:=ctz_lt (n:=64) h0 (by omega)
  have hand:=and_neg 64 w h0 (by omega)
  simp only [Nat.reducePow] at hand
  have e1:=ng_int (h:=h) h0 hw
  have k1:=kU hw
  have k2:=kU (n:=18446744073709551616-w) (by omega)
  have e3:IntKind.u64.wrap (((2^ctz 64 w:Nat):Int)*285870213051353865)=((2^ctz 64 w*285870213051353865%18446744073709551616:Nat):Int):=by
   have:IntKind.u64.wrap (((2^ctz 64 w:Nat):Int)*285870213051353865)=(((2^ctz 64 w:Nat):Int)*285870213051353865)%18446744073709551616:=rfl
   rw [this,Int.natCast_emod,Int.natCast_mul];rfl
  obtain ⟨d1,d2⟩:=deB _ hlt
  have e5:IntKind.i64.wrap ((ctz 64 w:Nat):Int)=((ctz 64 w:Nat):Int):=wrap64 (by omega) (by omega)
  have g0:=T.1
  have n0:=T.2
  generalize (2^ctz 64 w*285870213051353865%18446744073709551616)=X at *
  generalize hY:X >>> 58=Y at *
  generalize (tabN.map (AVal.int .u8 ·))=tv at g0 d1
  simp -implicitDefEqProofs (disch:=first|exact dz _|fail) only [↓AM.R0,AM.R1,AM.R2,reduceAdd,reduceLeDiff,reduceEqDiff,reduceToNat,Nat.reduceLT,↓reduceIte,reduceEq,Int.reduceLT,reduceLE,a_neg,e1,hand,e3,hY,g0,d1,e5]
  subst hQ
  exact ⟨rfl,rfl⟩
end Go.Proofs.YthillgheddpmhaaDoor.Pg
namespace Go.Proofs.YthillgheddpmhaaDoor.Pg
open Go Go.AM Go.Proofs.YthillgheddpmhaaDoor.AmGJ
open Nat (reduceAdd reduceLeDiff reduceEqDiff)
open Int (reduceToNat reduceEq reduceLE)
theorem tabLen {h:AHeap} {m:Nat} (hm:m<256):isV h (.str ⟨#[0,1,2,2,3,3,3,3,4,4,4,4,4,4,4,4,5,5,5,5,5,5,5,5,5,5,5,5,5,5,5,5,6,6,6,6,6,6,6,6,6,6,6,6,6,6,6,6,6,6,6,6,6,6,6,6,6,6,6,6,6,6,6,6,7,7,7,7,7,7,7,7,7,7,7,7,7,7,7,7,7,7,7,7,7,7,7,7,7,7,7,7,7,7,7,7,7,7,7,7,7,7,7,7,7,7,7,7,7,7,7,7,7,7,7,7,7,7,7,7,7,7,7,7,7,7,7,7,8,8,8,8,8,8,8,8,8,8,8,8,8,8,8,8,8,8,8,8,8,8,8,8,8,8,8,8,8,8,8,8,8,8,8,8,8,8,8,8,8,8,8,8,8,8,8,8,8,8,8,8,8,8,8,8,8,8,8,8,8,8,8,8,8,8,8,8,8,8,8,8,8,8,8,8,8,8,8,8,8,8,8,8,8,8,8,8,8,8,8,8,8,8,8,8,8,8,8,8,8,8,8,8,8,8,8,8,8,8,8,8,8,8,8,8,8,8,8,8,8,8,8,8,8,8,8,8]⟩) (.int .u8 (m:Int))=some (.int .u8 (blen m:Nat),h):=by
 have:∀ m:Fin 256,(⟨#[0,1,2,2,3,3,3,3,4,4,4,4,4,4,4,4,5,5,5,5,5,5,5,5,5,5,5,5,5,5,5,5,6,6,6,6,6,6,6,6,6,6,6,6,6,6,6,6,6,6,6,6,6,6,6,6,6,6,6,6,6,6,6,6,7,7,7,7,7,7,7,7,7,7,7,7,7,7,7,7,7,7,7,7,7,7,7,7,7,7,7,7,7,7,7,7,7,7,7,7,7,7,7,7,7,7,7,7,7,7,7,7,7,7,7,7,7,7,7,7,7,7,7,7,7,7,7,7,8,8,8,8,8,8,8,8,8,8,8,8,8,8,8,8,8,8,8,8,8,8,8,8,8,8,8,8,8,8,8,8,8,8,8,8,8,8,8,8,8,8,8,8,8,8,8,8,8,8,8,8,8,8,8,8,8,8,8,8,8,8,8,8,8,8,8,8,8,8,8,8,8,8,8,8,8,8,8,8,8,8,8,8,8,8,8,8,8,8,8,8,8,8,8,8,8,8,8,8,8,8,8,8,8,8,8,8,8,8,8,8,8,8,8,8,8,8,8,8,8,8,8,8,8,8,8,8]⟩:ByteArray)[m.1]?=some (UInt8.ofNat (blen m.1))∧blen m.1<256:=by decide +kernel
 obtain ⟨h1,h2⟩:=this ⟨m,hm⟩
 simp only at h1 h2
 simp only [isV,Int.natCast_nonneg,if_true,Int.toNat_natCast]
 rw [h1]
 simp only [Option.map_some,UInt8.toNat_ofNat']
 rw [Nat.mod_eq_of_lt (by simpa using h2)]
set_option maxHeartbeats 2000000 in
theorem len64 {h:AHeap} {w:Nat} (hw:w<18446744073709551616):CallP AP 102 [.int .u64 (w:Int)] h fun r h'=>h'=h∧r=.int .i64 (blen w:Nat):=by
 refine callP (rfl:Tr.get AP 102=some A102) ?_
 generalize hQ:(fun (r:AVal) (h':AHeap)=>_)=Q
 have wa:IntKind.i64.wrap (32+16)=48:=by decide
 have wb:IntKind.i64.wrap (48+8)=56:=by decide
 have wc:IntKind.i64.wrap (32+8)=40:=by decide
 have wd:IntKind.i64.wrap (0+16)=16:=by decide
 have we:IntKind.i64.wrap (16+8)=24:=by decide
 have wf:IntKind.i64.wrap (0+8)=8:=by decide
 simp -implicitDefEqProofs (disch:=first|exact dz _|fail) only [↓AM.R0,AM.R1,AM.R2,reduceAdd,reduceLeDiff,reduceEqDiff,reduceToNat,Nat.reduceLT,↓reduceIte,reduceEq,Int.reduceLT,reduceLE]
 refine AM.cI_bool (fun p0=>?_) (fun p0=>?_)
 ·simp only [decide_eq_true_eq] at p0
  have b0:=blen_shift (w:=w) (k:=32) (by simp only [Nat.reducePow];omega)
  have c0:w >>> 32<4294967296:=by rw [Nat.shiftRight_eq_div_pow];omega
  simp -implicitDefEqProofs (disch:=first|exact dz _|fail) only [↓AM.R0,AM.R1,AM.R2,reduceAdd,reduceLeDiff,reduceEqDiff,reduceToNat,Nat.reduceLT,↓reduceIte,reduceEq,Int.reduceLT,reduceLE]
  generalize hx0:w >>> 32=x0 at *
  refine AM.cI_bool (fun p1=>?_) (fun p1=>?_)
  ·simp only [decide_eq_true_eq] at p1
   have b1:=blen_shift (w:=x0) (k:=16) (by simp only [Nat.reducePow];omega)
   have c1:x0 >>> 16<65536:=by rw [Nat.shiftRight_eq_div_pow];omega
   simp -implicitDefEqProofs (disch:=first|exact dz _|fail) only [↓AM.R0,AM.R1,AM.R2,reduceAdd,reduceLeDiff,reduceEqDiff,reduceToNat,Nat.reduceLT,↓reduceIte,reduceEq,Int.reduceLT,reduceLE]
   generalize hx1:x0 >>> 16=x1 at *
   refine AM.cI_bool (fun p2=>?_) (fun p2=>?_)
   ·simp only [decide_eq_true_eq] at p2
    have b2:=blen_shift (w:=x1) (k:=8) (by simp only [Nat.reducePow];omega)
    have c2:x1 >>> 8<256:=by rw [Nat.shiftRight_eq_div_pow];omega
    simp -implicitDefEqProofs (disch:=first|exact dz _|fail) only [↓AM.R0,AM.R1,AM.R2,reduceAdd,reduceLeDiff,reduceEqDiff,reduceToNat,Nat.reduceLT,↓reduceIte,reduceEq,Int.reduceLT,reduceLE]
    generalize hx2:x1 >>> 8=x2 at *
    have q0:x2<256:=by omega
    have e6:IntKind.u8.wrap ((x2:Nat):Int)=((x2:Nat):Int):=by
     have:IntKind.u8.wrap ((x2:Nat):Int)=((x2:Nat):Int)%256:=rfl
     rw [this];omega
    have e7:=tabLen (h:=h) q0
    have q1:=blen_le (w:=x2) (n:=8) (by omega)
    have e8:IntKind.i64.wrap ((blen (x2):Nat):Int)=((blen (x2):Nat):Int):=wrap64 (by omega) (by omega)
    have e9:IntKind.i64.wrap ((56:Int)+((blen (x2):Nat):Int))=((56+blen (x2):Nat):Int):=(wrap64 (by omega) (by omega)).trans (by omega)
    simp -implicitDefEqProofs (disch:=first|exact dz _|fail) only [↓AM.R0,AM.R1,AM.R2,reduceAdd,reduceLeDiff,reduceEqDiff,reduceToNat,Nat.reduceLT,↓reduceIte,reduceEq,Int.reduceLT,reduceLE,e6,e7,e8,e9,wa,wb,wc,wd,we,wf]
    subst hQ
    refine ⟨rfl,?_⟩
    have:blen w=56+blen (x2):=by omega
    rw [this]
   ·simp only [decide_eq_false_iff_not] at p2
    have c2:x1<256:=by omega
    simp -implicitDefEqProofs (disch:=first|exact dz _|fail) only [↓AM.R0,AM.R1,AM.R2,reduceAdd,reduceLeDiff,reduceEqDiff,reduceToNat,Nat.reduceLT,↓reduceIte,reduceEq,Int.reduceLT,reduceLE]
    have q0:x1<256:=by omega
    have e6:IntKind.u8.wrap ((x1:Nat):Int)=((x1:Nat):Int):=by
     have:IntKind.u8.wrap ((x1:Nat):Int)=((x1:Nat):Int)%256:=rfl
     rw [this];omega
    have e7:=tabLen (h:=h) q0
    have q1:=blen_le (w:=x1) (n:=8) (by omega)
    have e8:IntKind.i64.wrap ((blen (x1):Nat):Int)=((blen (x1):Nat):Int):=wrap64 (by omega) (by omega)
    have e9:IntKind.i64.wrap ((48:Int)+((blen (x1):Nat):Int))=((48+blen (x1):Nat):Int):=(wrap64 (by omega) (by omega)).trans (by omega)
    simp -implicitDefEqProofs (disch:=first|exact dz _|fail) only [↓AM.R0,AM.R1,AM.R2,reduceAdd,reduceLeDiff,reduceEqDiff,reduceToNat,Nat.reduceLT,↓reduceIte,reduceEq,Int.reduceLT,reduceLE,e6,e7,e8,e9,wa,wb,wc,wd,we,wf]
    subst hQ
    refine ⟨rfl,?_⟩
    have:blen w=48+blen (x1):=by omega
    rw [this]
  ·simp only [decide_eq_false_iff_not] at p1
   have c1:x0<65536:=by omega
   simp -implicitDefEqProofs (disch:=first|exact dz _|fail) only [↓AM.R0,AM.R1,AM.R2,reduceAdd,reduceLeDiff,reduceEqDiff,reduceToNat,Nat.reduceLT,↓reduceIte,reduceEq,Int.reduceLT,reduceLE]
   refine AM.cI_bool (fun p2=>?_) (fun p2=>?_)
   ·simp only [decide_eq_true_eq] at p2
    have b2:=blen_shift (w:=x0) (k:=8) (by simp only [Nat.reducePow];omega)
    have c2:x0 >>> 8<256:=by rw [Nat.shiftRight_eq_div_pow];omega
    simp -implicitDefEqProofs (disch:=first|exact dz _|fail) only [↓AM.R0,AM.R1,AM.R2,reduceAdd,reduceLeDiff,reduceEqDiff,reduceToNat,Nat.reduceLT,↓reduceIte,reduceEq,Int.reduceLT,reduceLE]
    generalize hx2:x0 >>> 8=x2 at *
    have q0:x2<256:=by omega
    have e6:IntKind.u8.wrap ((x2:Nat):Int)=((x2:Nat):Int):=by
     have:IntKind.u8.wrap ((x2:Nat):Int)=((x2:Nat):Int)%256:=rfl
     rw [this];omega
    have e7:=tabLen (h:=h) q0
    have q1:=blen_le (w:=x2) (n:=8) (by omega)
    have e8:IntKind.i64.wrap ((blen (x2):Nat):Int)=((blen (x2):Nat):Int):=wrap64 (by omega) (by omega)
    have e9:IntKind.i64.wrap ((40:Int)+((blen (x2):Nat):Int))=((40+blen (x2):Nat):Int):=(wrap64 (by omega) (by omega)).trans (by omega)
    simp -implicitDefEqProofs (disch:=first|exact dz _|fail) only [↓AM.R0,AM.R1,AM.R2,reduceAdd,reduceLeDiff,reduceEqDiff,reduceToNat,Nat.reduceLT,↓reduceIte,reduceEq,Int.reduceLT,reduceLE,e6,e7,e8,e9,wa,wb,wc,wd,we,wf]
    subst hQ
    refine ⟨rfl,?_⟩
    have:blen w=40+blen (x2):=by omega
    rw [this]
   ·simp only [decide_eq_false_iff_not] at p2
    have c2:x0<256:=by omega
    simp -implicitDefEqProofs (disch:=first|exact dz _|fail) only [↓AM.R0,AM.R1,AM.R2,reduceAdd,reduceLeDiff,reduceEqDiff,reduceToNat,Nat.reduceLT,↓reduceIte,reduceEq,Int.reduceLT,reduceLE]
    have q0:x0<256:=by omega
    have e6:IntKind.u8.wrap ((x0:Nat):Int)=((x0:Nat):Int):=by
     have:IntKind.u8.wrap ((x0:Nat):Int)=((x0:Nat):Int)%256:=rfl
     rw [this];omega
    have e7:=tabLen (h:=h) q0
    have q1:=blen_le (w:=x0) (n:=8) (by omega)
    have e8:IntKind.i64.wrap ((blen (x0):Nat):Int)=((blen (x0):Nat):Int):=wrap64 (by omega) (by omega)
    have e9:IntKind.i64.wrap ((32:Int)+((blen (x0):Nat):Int))=((32+blen (x0):Nat):Int):=(wrap64 (by omega) (by omega)).trans (by omega)
    simp -implicitDefEqProofs (disch:=first|exact dz _|fail) only [↓AM.R0,AM.R1,AM.R2,reduceAdd,reduceLeDiff,reduceEqDiff,reduceToNat,Nat.reduceLT,↓reduceIte,reduceEq,Int.reduceLT,reduceLE,e6,e7,e8,e9,wa,wb,wc,wd,we,wf]
    subst hQ
    refine ⟨rfl,?_⟩
    have:blen w=32+blen (x0):=by omega
    rw [this]
 ·simp only [decide_eq_false_iff_not] at p0
  have c0:w<4294967296:=by omega
  simp -implicitDefEqProofs (disch:=first|exact dz _|fail) only [↓AM.R0,AM.R1,AM.R2,reduceAdd,reduceLeDiff,reduceEqDiff,reduceToNat,Nat.reduceLT,↓reduceIte,reduceEq,Int.reduceLT,reduceLE]
  refine AM.cI_bool (fun p1=>?_) (fun p1=>?_)
  ·simp only [decide_eq_true_eq] at p1
   have b1:=blen_shift (w:=w) (k:=16) (by simp only [Nat.reducePow];omega)
   have c1:w >>> 16<65536:=by rw [Nat.shiftRight_eq_div_pow];omega
   simp -implicitDefEqProofs (disch:=first|exact dz _|fail) only [↓AM.R0,AM.R1,AM.R2,reduceAdd,reduceLeDiff,reduceEqDiff,reduceToNat,Nat.reduceLT,↓reduceIte,reduceEq,Int.reduceLT,reduceLE]
   generalize hx1:w >>> 16=x1 at *
   refine AM.cI_bool (fun p2=>?_) (fun p2=>?_)
   ·simp only [decide_eq_true_eq] at p2
    have b2:=blen_shift (w:=x1) (k:=8) (by simp only [Nat.reducePow];omega)
    have c2:x1 >>> 8<256:=by rw [Nat.shiftRight_eq_div_pow];omega
    simp -implicitDefEqProofs (disch:=first|exact dz _|fail) only [↓AM.R0,AM.R1,AM.R2,reduceAdd,reduceLeDiff,reduceEqDiff,reduceToNat,Nat.reduceLT,↓reduceIte,reduceEq,Int.reduceLT,reduceLE]
    generalize hx2:x1 >>> 8=x2 at *
    have q0:x2<256:=by omega
    have e6:IntKind.u8.wrap ((x2:Nat):Int)=((x2:Nat):Int):=by
     have:IntKind.u8.wrap ((x2:Nat):Int)=((x2:Nat):Int)%256:=rfl
     rw [this];omega
    have e7:=tabLen (h:=h) q0
    have q1:=blen_le (w:=x2) (n:=8) (by omega)
    have e8:IntKind.i64.wrap ((blen (x2):Nat):Int)=((blen (x2):Nat):Int):=wrap64 (by omega) (by omega)
    have e9:IntKind.i64.wrap ((24:Int)+((blen (x2):Nat):Int))=((24+blen (x2):Nat):Int):=(wrap64 (by omega) (by omega)).trans (by omega)
    simp -implicitDefEqProofs (disch:=first|exact dz _|fail) only [↓AM.R0,AM.R1,AM.R2,reduceAdd,reduceLeDiff,reduceEqDiff,reduceToNat,Nat.reduceLT,↓reduceIte,reduceEq,Int.reduceLT,reduceLE,e6,e7,e8,e9,wa,wb,wc,wd,we,wf]
    subst hQ
    refine ⟨rfl,?_⟩
    have:blen w=24+blen (x2):=by omega
    rw [this]
   ·simp only [decide_eq_false_iff_not] at p2
    have c2:x1<256:=by omega
    simp -implicitDefEqProofs (disch:=first|exact dz _|fail) only [↓AM.R0,AM.R1,AM.R2,reduceAdd,reduceLeDiff,reduceEqDiff,reduceToNat,Nat.reduceLT,↓reduceIte,reduceEq,Int.reduceLT,reduceLE]
    have q0:x1<256:=by omega
    have e6:IntKind.u8.wrap ((x1:Nat):Int)=((x1:Nat):Int):=by
     have:IntKind.u8.wrap ((x1:Nat):Int)=((x1:Nat):Int)%256:=rfl
     rw [this];omega
    have e7:=tabLen (h:=h) q0
    have q1:=blen_le (w:=x1) (n:=8) (by omega)
    have e8:IntKind.i64.wrap ((blen (x1):Nat):Int)=((blen (x1):Nat):Int):=wrap64 (by omega) (by omega)
    have e9:IntKind.i64.wrap ((16:Int)+((blen (x1):Nat):Int))=((16+blen (x1):Nat):Int):=(wrap64 (by omega) (by omega)).trans (by omega)
    simp -implicitDefEqProofs (disch:=first|exact dz _|fail) only [↓AM.R0,AM.R1,AM.R2,reduceAdd,reduceLeDiff,reduceEqDiff,reduceToNat,Nat.reduceLT,↓reduceIte,reduceEq,Int.reduceLT,reduceLE,e6,e7,e8,e9,wa,wb,wc,wd,we,wf]
    subst hQ
    refine ⟨rfl,?_⟩
    have:blen w=16+blen (x1):=by omega
    rw [this]
  ·simp only [decide_eq_false_iff_not] at p1
   have c1:w<65536:=by omega
   simp -implicitDefEqProofs (disch:=first|exact dz _|fail) only [↓AM.R0,AM.R1,AM.R2,reduceAdd,reduceLeDiff,reduceEqDiff,reduceToNat,Nat.reduceLT,↓reduceIte,reduceEq,Int.reduceLT,reduceLE]
   refine AM.cI_bool (fun p2=>?_) (fun p2=>?_)
   ·simp only [decide_eq_true_eq] at p2
    have b2:=blen_shift (w:=w) (k:=8) (by simp only [Nat.reducePow];omega)
    have c2:w >>> 8<256:=by rw [Nat.shiftRight_eq_div_pow];omega
    simp -implicitDefEqProofs (disch:=first|exact dz _|fail) only [↓AM.R0,AM.R1,AM.R2,reduceAdd,reduceLeDiff,reduceEqDiff,reduceToNat,Nat.reduceLT,↓reduceIte,reduceEq,Int.reduceLT,reduceLE]
    generalize hx2:w >>> 8=x2 at *
    have q0:x2<256:=by omega
    have e6:IntKind.u8.wrap ((x2:Nat):Int)=((x2:Nat):Int):=by
     have:IntKind.u8.wrap ((x2:Nat):Int)=((x2:Nat):Int)%256:=rfl
     rw [this];omega
    have e7:=tabLen (h:=h) q0
    have q1:=blen_le (w:=x2) (n:=8) (by omega)
    have e8:IntKind.i64.wrap ((blen (x2):Nat):Int)=((blen (x2):Nat):Int):=wrap64 (by omega) (by omega)
    have e9:IntKind.i64.wrap ((8:Int)+((blen (x2):Nat):Int))=((8+blen (x2):Nat):Int):=(wrap64 (by omega) (by omega)).trans (by omega)
    simp -implicitDefEqProofs (disch:=first|exact dz _|fail) only [↓AM.R0,AM.R1,AM.R2,reduceAdd,reduceLeDiff,reduceEqDiff,reduceToNat,Nat.reduceLT,↓reduceIte,reduceEq,Int.reduceLT,reduceLE,e6,e7,e8,e9,wa,wb,wc,wd,we,wf]
    subst hQ
    refine ⟨rfl,?_⟩
    have:blen w=8+blen (x2):=by omega
    rw [this]
   ·simp only [decide_eq_false_iff_not] at p2
    have c2:w<256:=by omega
    simp -implicitDefEqProofs (disch:=first|exact dz _|fail) only [↓AM.R0,AM.R1,AM.R2,reduceAdd,reduceLeDiff,reduceEqDiff,reduceToNat,Nat.reduceLT,↓reduceIte,reduceEq,Int.reduceLT,reduceLE]
    have q0:w<256:=by omega
    have e6:IntKind.u8.wrap ((w:Nat):Int)=((w:Nat):Int):=by
     have:IntKind.u8.wrap ((w:Nat):Int)=((w:Nat):Int)%256:=rfl
     rw [this];omega
    have e7:=tabLen (h:=h) q0
    have q1:=blen_le (w:=w) (n:=8) (by omega)
    have e8:IntKind.i64.wrap ((blen (w):Nat):Int)=((blen (w):Nat):Int):=wrap64 (by omega) (by omega)
    have e9:IntKind.i64.wrap ((0:Int)+((blen (w):Nat):Int))=((0+blen (w):Nat):Int):=(wrap64 (by omega) (by omega)).trans (by omega)
    simp -implicitDefEqProofs (disch:=first|exact dz _|fail) only [↓AM.R0,AM.R1,AM.R2,reduceAdd,reduceLeDiff,reduceEqDiff,reduceToNat,Nat.reduceLT,↓reduceIte,reduceEq,Int.reduceLT,reduceLE,e6,e7,e8,e9,wa,wb,wc,wd,we,wf]
    subst hQ
    refine ⟨rfl,?_⟩
    have:blen w=0+blen (w):=by omega
    rw [this]
theorem lz {h:AHeap} {w:Nat} (hw:w<18446744073709551616):CallP AP 96 [.int .u64 (w:Int)] h fun r h'=>h'=h∧r=.int .i64 (64-blen w:Nat):=by
 refine callP (rfl:Tr.get AP 96=some A96) ?_
 generalize hQ:(fun (r:AVal) (h':AHeap)=>_)=Q
 simp -implicitDefEqProofs (disch:=first|exact dz _|fail) only [↓AM.R0,AM.R1,AM.R2,reduceAdd,reduceLeDiff,reduceEqDiff,reduceToNat,Nat.reduceLT,↓reduceIte,reduceEq,Int.reduceLT,reduceLE]
 refine AM.callI_of (len64 hw) ?_
 rintro r h2 ⟨rfl,rfl⟩
 have q:=blen_le (w:=w) (n:=64) (by omega)
 have e:IntKind.i64.wrap (64-((blen w:Nat):Int))=((64-blen w:Nat):Int):=(wrap64 (by omega) (by omega)).trans (by omega)
 simp -implicitDefEqProofs (disch:=first|exact dz _|fail) only [↓AM.R0,AM.R1,AM.R2,reduceAdd,reduceLeDiff,reduceEqDiff,reduceToNat,Nat.reduceLT,↓reduceIte,reduceEq,Int.reduceLT,reduceLE,e]
 subst hQ
 exact ⟨rfl,rfl⟩
end Go.Proofs.YthillgheddpmhaaDoor.Pg
namespace Go.Proofs.YthillgheddpmhaaDoor.Pg
def Row (f:Nat→Bool) (p k:Nat):Prop:=∀ t,t<k→f (p+t)=true
theorem Row.sub {f:Nat→Bool} {p k q j:Nat} (r:Row f p k) (h1:p≤q) (h2:q+j≤p+k):Row f q j:=fun t ht=>by
 have:=r (q-p+t) (by omega)
 rwa [show p+(q-p+t)=q+t by omega] at this
theorem Row.join {f:Nat→Bool} {p k q j:Nat} (r:Row f p k) (s:Row f q j) (h:q=p+k):Row f p (k+j):=fun t ht=>by
 rcases Nat.lt_or_ge t k with q1 | q1
 ·exact r t q1
 ·have:=s (t-k) (by omega)
  rwa [show q+(t-k)=p+t by omega] at this
structure Sm where
 s:Nat
 m:Nat
 e:Nat
 a:Nat
structure IsSum (f:Nat→Bool) (x y:Nat) (q:Sm):Prop where
 le:x≤y
 all:q.a=y-x
 s1:Row f x q.s
 s2:q.s≤y-x
 s3:q.s<y-x→f (x+q.s)=false
 e1:Row f (y-q.e) q.e
 e2:q.e≤y-x
 e3:q.e<y-x→f (y-q.e-1)=false
 m1:∃ p,x≤p∧p+q.m≤y∧Row f p q.m
 m2:∀ p k,x≤p→p+k≤y→Row f p k→k≤q.m
theorem IsSum.congr {f g:Nat→Bool} {x y:Nat} {q:Sm} (h:∀ p,x≤p→p<y→f p=g p) (H:IsSum f x y q):IsSum g x y q:=by
 have rc:∀ p k,x≤p→p+k≤y→(Row f p k↔Row g p k):=fun p k h1 h2=>by
  constructor
  ·intro r t ht;rw [←h _ (by omega) (by omega)];exact r t ht
  ·intro r t ht;rw [h _ (by omega) (by omega)];exact r t ht
 obtain ⟨le,all,s1,s2,s3,e1,e2,e3,⟨p,m1,m2,m3⟩,m4⟩:=H
 exact ⟨le,all,(rc _ _ (by omega) (by omega)).1 s1,s2,fun q=>by rw [←h _ (by omega) (by omega)];exact s3 q,(rc _ _ (by omega) (by omega)).1 e1,e2,fun q=>by rw [←h _ (by omega) (by omega)];exact e3 q,
  ⟨p,m1,m2,(rc _ _ m1 m2).1 m3⟩,fun p k h1 h2 r=>m4 p k h1 h2 ((rc _ _ h1 h2).2 r)⟩
theorem IsSum.nil (f:Nat→Bool) (x:Nat):IsSum f x x ⟨0,0,0,0⟩ :=
 ⟨Nat.le_refl _,by simp,fun t ht=>by simp at ht,by simp,fun h=>by simp at h,fun t ht=>by simp at ht,by simp,fun h=>by simp at h,⟨x,Nat.le_refl _,by simp,fun t ht=>by simp at ht⟩,fun p k h1 h2 _=>by simp only;omega⟩
def bothF (a b:Sm):Sm:=⟨if a.s=a.a then a.s+b.s else a.s,max (max a.m b.m) (a.e+b.s),if b.e=b.a then b.e+a.e else b.e,a.a+b.a⟩
theorem IsSum.end_le {f:Nat→Bool} {x y:Nat} {a:Sm} (A:IsSum f x y a) {p:Nat} (h1:x≤p) (h2:p≤y) (r:Row f p (y-p)):y-p≤a.e:=by
 rcases Nat.lt_or_ge a.e (y-p) with q | q
 ·have h3:=A.e3 (by omega)
  have:=r (y-a.e-1-p) (by omega)
  rw [show p+(y-a.e-1-p)=y-a.e-1 by omega,h3] at this
  cases this
 ·exact q
theorem IsSum.start_le {f:Nat→Bool} {x y:Nat} {a:Sm} (A:IsSum f x y a) {k:Nat} (h2:x+k≤y) (r:Row f x k):k≤a.s:=by
 rcases Nat.lt_or_ge a.s k with q | q
 ·have h3:=A.s3 (by omega)
  have:=r a.s q
  rw [h3] at this
  cases this
 ·exact q
theorem IsSum.both {f:Nat→Bool} {x y z:Nat} {a b:Sm} (A:IsSum f x y a) (B:IsSum f y z b):IsSum f x z (bothF a b):=by
 have a1:=A.le;have a2:=A.all;have a3:=A.s2;have a4:=A.e2
 have b1:=B.le;have b2:=B.all;have b3:=B.s2;have b4:=B.e2
 refine ⟨by omega,by simp only [bothF];omega,?_,?_,?_,?_,?_,?_,?_,?_⟩
 ·simp only [bothF];split
  ·rename_i h;exact A.s1.join B.s1 (by omega)
  ·exact A.s1
 ·simp only [bothF];split<;>omega
 ·simp only [bothF];split
  ·rename_i h;intro q
   rw [show x+(a.s+b.s)=y+b.s by omega];exact B.s3 (by omega)
  ·intro q;exact A.s3 (by omega)
 ·simp only [bothF];split
  ·rename_i h
   rw [Nat.add_comm b.e a.e]
   have:z-(a.e+b.e)=y-a.e:=by omega
   rw [this]
   exact A.e1.join B.e1 (by omega)
  ·exact B.e1
 ·simp only [bothF];split<;>omega
 ·simp only [bothF];split
  ·rename_i h;intro q
   rw [show z-(b.e+a.e)-1=y-a.e-1 by omega];exact A.e3 (by omega)
  ·intro q;exact B.e3 (by omega)
 ·simp only [bothF]
  obtain ⟨p1,q1,q2,q3⟩:=A.m1
  obtain ⟨p2,r1,r2,r3⟩:=B.m1
  by_cases c1:a.e+b.s≤max a.m b.m
  ·by_cases c2:b.m≤a.m
   ·refine ⟨p1,q1,?_,?_⟩
    ·omega
    ·rw [show max (max a.m b.m) (a.e+b.s)=a.m by omega];exact q3
   ·refine ⟨p2,by omega,?_,?_⟩
    ·omega
    ·rw [show max (max a.m b.m) (a.e+b.s)=b.m by omega];exact r3
  ·refine ⟨y-a.e,by omega,by omega,?_⟩
   rw [show max (max a.m b.m) (a.e+b.s)=a.e+b.s by omega]
   exact A.e1.join B.s1 (by omega)
 ·intro p k h1 h2 r
  simp only [bothF]
  by_cases c1:p+k≤y
  ·have:=A.m2 p k h1 c1 r;omega
  ·by_cases c2:y≤p
   ·have:=B.m2 p k c2 h2 r;omega
   ·have d1:=A.end_le h1 (by omega) (r.sub (Nat.le_refl _) (by omega))
    have d2:=B.start_le (k:=p+k-y) (by omega) (r.sub (by omega) (by omega))
    omega
def X (v:Nat):Nat→Nat
 | 0=>v
 | c+1=>X v c &&& (X v c >>> 1)
theorem X_bit (v:Nat):∀ c j,(X v c).testBit j=true↔∀ t,t≤c→v.testBit (j+t)=true
 | 0,j=>⟨fun h t ht=>(show t=0 by omega) ▸ h,fun h=>h 0 (Nat.le_refl _)⟩
 | c+1,j=>by
  rw [X,Nat.testBit_and,Nat.testBit_shiftRight,Bool.and_eq_true,X_bit v c j,X_bit v c (1+j)]
  constructor
  ·rintro ⟨h1,h2⟩ t ht
   by_cases e:t≤c
   ·exact h1 t e
   ·have:=h2 c (Nat.le_refl _)
    rwa [show 1+j+c=j+t by omega] at this
  ·intro h
   exact ⟨fun t ht=>h t (by omega),fun t ht=>by
    have:=h (1+t) (by omega)
    rwa [show j+(1+t)=1+j+t by omega] at this⟩
theorem X_lt {v n:Nat} (h:v<2^n):∀ c,X v c<2^n
 | 0=>h
 | c+1=>Nat.lt_of_le_of_lt Nat.and_le_left (X_lt h c)
theorem X_end {v n:Nat} (h:v<2^n):X v n=0:=by
 apply Nat.eq_of_testBit_eq
 intro j
 rw [Nat.zero_testBit]
 cases hb:(X v n).testBit j with
 | false=>rfl
 | true =>
  have:=(X_bit v n j).1 hb n (Nat.le_refl _)
  rw [Nat.testBit_lt_two_pow (Nat.lt_of_lt_of_le h (Nat.pow_le_pow_right (by decide) (by omega)))] at this
  cases this
def fr (w j:Nat):Bool:=decide (j<64)&&!w.testBit j
theorem compl_bit {w:Nat} (h:w<18446744073709551616) (j:Nat):(18446744073709551616-1-w).testBit j=fr w j:=by
 have:=Nat.testBit_two_pow_sub_succ (x:=w) (n:=64) (by simpa using h) j
 rw [show 2^64-(w+1)=18446744073709551616-1-w by simp only [Nat.reducePow];omega] at this
 exact this
theorem X_row {w:Nat} (h:w<18446744073709551616) (c j:Nat):(X (18446744073709551616-1-w) c).testBit j=true↔Row (fr w) j (c+1):=by
 rw [X_bit]
 constructor
 ·intro q t ht;rw [←compl_bit h];exact q t (by omega)
 ·intro q t ht;rw [compl_bit h];exact q t (by omega)
theorem sumW {w c:Nat} (h:w<18446744073709551616) (h0:X (18446744073709551616-1-w) c=0) (h1:c=0∨X (18446744073709551616-1-w) (c-1)≠0):IsSum (fr w) 0 64 ⟨ctz 64 w,c,64-blen w,64⟩:=by
 have q:=blen_le (w:=w) (n:=64) (by simpa using h)
 have q2:=ctz_le 64 w
 refine ⟨by omega,rfl,?_,?_,?_,?_,?_,?_,?_,?_⟩
 ·intro t ht
  simp only at ht
  simp only [fr,Nat.zero_add,Bool.and_eq_true,decide_eq_true_eq,Bool.not_eq_true']
  exact ⟨by omega,ctz_low 64 w t ht⟩
 ·simp only;omega
 ·intro q3
  simp only at q3
  have:=ctz_at 64 w (by omega)
  simp only [fr,Nat.zero_add,this,Bool.not_true,Bool.and_false]
 ·intro t ht
  simp only at ht ⊢
  have e:w.testBit (64-(64-blen w)+t)=false:=Nat.testBit_lt_two_pow (Nat.lt_of_lt_of_le (blen_lt w) (Nat.pow_le_pow_right (by decide) (by omega)))
  simp only [fr,e,Bool.not_false,Bool.and_true,decide_eq_true_eq]
  omega
 ·simp only;omega
 ·intro q3
  simp only at q3 ⊢
  have hw:w≠0:=by
   rintro rfl
   simp [blen] at q3
  have:=blen_at hw
  rw [show 64-(64-blen w)-1=blen w-1 by omega]
  simp only [fr,this,Bool.not_true,Bool.and_false]
 ·rcases h1 with rfl | h1
  ·exact ⟨0,by omega,by simp,fun t ht=>by simp at ht⟩
  ·obtain ⟨j,hj⟩:∃ j,(X (18446744073709551616-1-w) (c-1)).testBit j=true:=by
    apply Classical.byContradiction
    intro hn
    apply h1
    apply Nat.eq_of_testBit_eq
    intro j
    rw [Nat.zero_testBit]
    cases hb:(X (18446744073709551616-1-w) (c-1)).testBit j with
    | false=>rfl
    | true=>exact absurd ⟨j,hb⟩ hn
   have r:=(X_row h _ _).1 hj
   by_cases hc:c=0
   ·subst hc;exact ⟨0,by omega,by simp,fun t ht=>by simp at ht⟩
   ·rw [show c-1+1=c by omega] at r
    refine ⟨j,by omega,?_,r⟩
    have:=r (c-1) (by omega)
    simp only [fr,Bool.and_eq_true,decide_eq_true_eq] at this
    show j+c≤64
    omega
 ·intro p k _ _ r
  simp only
  rcases Nat.lt_or_ge c k with q3 | q3
  ·have:=(X_row h c p).2 (r.sub (Nat.le_refl _) (by omega))
   rw [h0,Nat.zero_testBit] at this
   cases this
  ·exact q3
end Go.Proofs.YthillgheddpmhaaDoor.Pg
namespace Go.Proofs.YthillgheddpmhaaDoor.Pg
open Go Go.AM Go.Proofs.YthillgheddpmhaaDoor.AmGJ
open Nat (reduceAdd reduceLeDiff reduceEqDiff)
open Int (reduceToNat reduceEq reduceLE)
def m3V (h:AHeap) (x y z:AVal):Option (AVal×AHeap):=match x,y,z with
  | .int k a,.int k' b,.int k'' c=>if k=k'∧k=k'' then some (.int k (if (if a<b then b else a)<c then c else (if a<b then b else a)),h) else none
  | _,_,_=>none
theorem a_max3 (e:Env) (h:AHeap) (x y z:AOpd):aop e h (.max3 x y z)=m3V h (opd e x) (opd e y) (opd e z):=rfl
theorem m3_nat {h:AHeap} (a b c:Nat):m3V h (.int .i64 (a:Int)) (.int .i64 (b:Int)) (.int .i64 (c:Int))=some (.int .i64 ((max (max a b) c:Nat):Int),h):=by
 have:(if (if (a:Int)<b then (b:Int) else a)<c then (c:Int) else (if (a:Int)<b then (b:Int) else a))=((max (max a b) c:Nat):Int):=by
  split<;>split at*<;> omega
 simp only [m3V,and_self,if_true,this]
def encS (q:Sm):List AVal:=[.int .i64 (q.s:Int),.int .i64 (q.m:Int),.int .i64 (q.e:Int),.int .i64 (q.a:Int)]
set_option maxHeartbeats 2000000 in
theorem ofW {h:AHeap} (T:TabR h) {w:Nat} (hw:w<18446744073709551616):CallP AP 80 [.int .u64 (w:Int)] h fun r h'=>HFrame h h' [] []∧∃ q,r=.agg (encS q)∧IsSum (fr w) 0 64 q:=by
 refine callP (rfl:Tr.get AP 80=some A80) ?_
 generalize hQ:(fun (r:AVal) (h':AHeap)=>_)=Q
 have f0:=(HFrame.refl (h:=h) (F:=[]) (by simp)).pushTmp (.cells 0 false [.int .i64 0,.int .i64 0,.int .i64 0,.int .i64 0])
 simp -implicitDefEqProofs (disch:=first|exact dz _|fail) only [↓AM.R0,AM.R1,AM.R2,reduceAdd,reduceLeDiff,reduceEqDiff,reduceToNat,Nat.reduceLT,↓reduceIte,reduceEq,Int.reduceLT,reduceLE]
 refine AM.callI_of (tz (T.frame f0 (by simp)) hw) ?_
 rintro r h2 ⟨rfl,rfl⟩
 simp -implicitDefEqProofs (disch:=first|exact dz _|fail) only [↓AM.R0,AM.R1,AM.R2,reduceAdd,reduceLeDiff,reduceEqDiff,reduceToNat,Nat.reduceLT,↓reduceIte,reduceEq,Int.reduceLT,reduceLE]
 refine AM.callI_of (lz hw) ?_
 rintro r h2 ⟨rfl,rfl⟩
 have hv:18446744073709551616-1-w<2^64:=by simp only [Nat.reducePow];omega
 have x64:=X_end hv
 have fA:=(f0.pushTmp (.cells 0 false [.int .i64 0,.int .i64 0,.int .i64 0,.int .i64 0])).setTmp (i:=h.n+1) (by omega) (.cells 0 false [.int .i64 (ctz 64 w:Nat),.int .i64 0,.int .i64 (64-blen w:Nat),.int .i64 64])
 simp -implicitDefEqProofs (disch:=first|exact dz _|fail) only [↓AM.R0,AM.R1,AM.R2,reduceAdd,reduceLeDiff,reduceEqDiff,reduceToNat,Nat.reduceLT,↓reduceIte,reduceEq,Int.reduceLT,reduceLE,a_compl,cm_int hw]
 refine AM.loopI_of (fun k e h'=>∃ c:Nat,k+c=64∧e.val 2=.ptr h.n 0 0∧e.val 3=.ptr (h.n+1) 0 0∧e.val 4=.int .u64 (X (18446744073709551616-1-w) c:Nat)∧HFrame h h' [] []∧h.n+2≤h'.n ∧
  h'.get h.n=.cells 0 false [.int .i64 0,.int .i64 0,.int .i64 0,.int .i64 0]∧h'.get (h.n+1)=.cells 0 false [.int .i64 (ctz 64 w:Nat),.int .i64 (c:Int),.int .i64 (64-blen w:Nat),.int .i64 64]∧(c=0∨X (18446744073709551616-1-w) (c-1)≠0)) 64 ?_ ?_
 ·refine ⟨0,rfl,?_,?_,?_,fA,?_,?_,?_,.inl rfl⟩<;>simp -implicitDefEqProofs (disch:=first|exact dz _|fail) only [↓AM.R0,AM.R1,AM.R2,reduceAdd,reduceLeDiff,reduceEqDiff,reduceToNat,Nat.reduceLT,↓reduceIte,reduceEq,Int.reduceLT,reduceLE]<;>first | rfl | exact Nat.le_refl _ | skip
 ·rintro k e h' ⟨c,hk,e2,e3,e4,fr,hn,gA,gB,h1⟩
  have xl:=X_lt hv c
  simp only [Nat.reducePow] at xl
  simp -implicitDefEqProofs (disch:=first|exact dz _|fail) only [↓AM.R0,AM.R1,AM.R2,reduceAdd,reduceLeDiff,reduceEqDiff,reduceToNat,Nat.reduceLT,↓reduceIte,reduceEq,Int.reduceLT,reduceLE,e4]
  refine AM.cI_bool (fun hb=>?_) (fun hb=>?_)
  ·have hx:X (18446744073709551616-1-w) c≠0:=by simpa using hb
   have hc:c<64:=by
    rcases Nat.lt_or_ge c 64 with q | q
    ·exact q
    ·obtain rfl:c=64:=by omega
     exact absurd x64 hx
   have hw1:IntKind.i64.wrap ((c:Int)+1)=((c+1:Nat):Int):=(wrap64 (by omega) (by omega)).trans (by omega)
   have s1:∀ h:AHeap,binV h .shr (.int .u64 ((X (18446744073709551616-1-w) c:Nat):Int)) (.int .u64 1)=some (.int .u64 ((X (18446744073709551616-1-w) c >>> 1:Nat):Int),h):=fun h=>shr_nat (b:=1) (by decide)
   have hs:X (18446744073709551616-1-w) c >>> 1<18446744073709551616:=by rw [Nat.shiftRight_eq_div_pow];omega
   have k1:=kU xl
   have k2:=kU hs
   have fB:=fr.setTmp (i:=h.n+1) (by omega) (.cells 0 false [.int .i64 (ctz 64 w:Nat),.int .i64 ((c+1:Nat):Int),.int .i64 (64-blen w:Nat),.int .i64 64])
   simp -implicitDefEqProofs (disch:=first|exact dz _|fail) only [↓AM.R0,AM.R1,AM.R2,reduceAdd,reduceLeDiff,reduceEqDiff,reduceToNat,Nat.reduceLT,↓reduceIte,reduceEq,Int.reduceLT,reduceLE,e2,e3,e4,gB,hw1]
   refine ⟨64-(c+1),by omega,c+1,by omega,rfl,fB,?_,?_,?_,.inr hx⟩
   ·exact hn
   ·exact gA
   ·rfl
  ·have hx:X (18446744073709551616-1-w) c=0:=by simpa using hb
   simp -implicitDefEqProofs (disch:=first|exact dz _|fail) only [↓AM.R0,AM.R1,AM.R2,reduceAdd,reduceLeDiff,reduceEqDiff,reduceToNat,Nat.reduceLT,↓reduceIte,reduceEq,Int.reduceLT,reduceLE,e2,e3,gA,gB]
   subst hQ
   exact ⟨fr.setTmp (by omega) _,⟨ctz 64 w,c,64-blen w,64⟩,rfl,sumW hw hx h1⟩
structure SmOk (q:Sm):Prop where
 s:q.s≤q.a
 m:q.m≤q.a
 e:q.e≤q.a
 a:q.a≤1048576
set_option maxHeartbeats 2000000 in
theorem bothW {h:AHeap} {a b:Sm} (ha:SmOk a) (hb:SmOk b):CallP AP 81 [.agg (encS a),.agg (encS b)] h fun r h'=>HFrame h h' [] []∧r=.agg (encS (bothF a b)):=by
 refine callP (rfl:Tr.get AP 81=some A81) ?_
 generalize hQ:(fun (r:AVal) (h':AHeap)=>_)=Q
 obtain ⟨sa,am,ae,aa⟩:=a
 obtain ⟨bs,bm,be,ba⟩:=b
 obtain ⟨h1,h2,h3,h4⟩:=ha
 obtain ⟨g1,g2,g3,g4⟩:=hb
 simp only at h1 h2 h3 h4 g1 g2 g3 g4
 have f0:=(((HFrame.refl (h:=h) (F:=[]) (by simp)).pushTmp (.cells 0 false (encS ⟨sa,am,ae,aa⟩))).pushTmp (.cells 0 false (encS ⟨bs,bm,be,ba⟩))).pushTmp (.cells 0 false [.int .i64 0,.int .i64 0,.int .i64 0,.int .i64 0])
 have w1:IntKind.i64.wrap ((ae:Int)+(bs:Int))=((ae+bs:Nat):Int):=(wrap64 (by omega) (by omega)).trans (by omega)
 have w2:IntKind.i64.wrap ((aa:Int)+(ba:Int))=((aa+ba:Nat):Int):=(wrap64 (by omega) (by omega)).trans (by omega)
 have w3:IntKind.i64.wrap ((sa:Int)+(bs:Int))=((sa+bs:Nat):Int):=(wrap64 (by omega) (by omega)).trans (by omega)
 have w4:IntKind.i64.wrap ((be:Int)+(ae:Int))=((be+ae:Nat):Int):=(wrap64 (by omega) (by omega)).trans (by omega)
 simp -implicitDefEqProofs (disch:=first|exact dz _|fail) only [↓AM.R0,AM.R1,AM.R2,reduceAdd,reduceLeDiff,reduceEqDiff,reduceToNat,Nat.reduceLT,↓reduceIte,reduceEq,Int.reduceLT,reduceLE,encS,w1,w2,a_max3,m3_nat]
 have dd1:decide ((sa:Int)=(aa:Int))=decide (sa=aa):=decide_eq_decide.2 (by omega)
 have dd2:decide ((be:Int)=(ba:Int))=decide (be=ba):=decide_eq_decide.2 (by omega)
 rw [dd1]
 refine AM.cI_bool (fun q1=>?_) (fun q1=>?_)
 ·simp only [decide_eq_true_eq] at q1
  simp -implicitDefEqProofs (disch:=first|exact dz _|fail) only [↓AM.R0,AM.R1,AM.R2,reduceAdd,reduceLeDiff,reduceEqDiff,reduceToNat,Nat.reduceLT,↓reduceIte,reduceEq,Int.reduceLT,reduceLE,w3]
  rw [dd2]
  refine AM.cI_bool (fun q2=>?_) (fun q2=>?_)
  ·simp only [decide_eq_true_eq] at q2
   simp -implicitDefEqProofs (disch:=first|exact dz _|fail) only [↓AM.R0,AM.R1,AM.R2,reduceAdd,reduceLeDiff,reduceEqDiff,reduceToNat,Nat.reduceLT,↓reduceIte,reduceEq,Int.reduceLT,reduceLE,w4]
   subst hQ
   refine ⟨?_,?_⟩
   ·(repeat (first | exact HFrame.refl (by simp) | assumption | refine HFrame.setTmp ?_ (by omega) _ | refine HFrame.pushTmp ?_ _))
   ·simp only [encS,bothF,if_pos q1,if_pos q2]
  ·simp only [decide_eq_false_iff_not] at q2
   simp -implicitDefEqProofs (disch:=first|exact dz _|fail) only [↓AM.R0,AM.R1,AM.R2,reduceAdd,reduceLeDiff,reduceEqDiff,reduceToNat,Nat.reduceLT,↓reduceIte,reduceEq,Int.reduceLT,reduceLE]
   subst hQ
   refine ⟨?_,?_⟩
   ·(repeat (first | exact HFrame.refl (by simp) | assumption | refine HFrame.setTmp ?_ (by omega) _ | refine HFrame.pushTmp ?_ _))
   ·simp only [encS,bothF,if_pos q1,if_neg q2]
 ·simp only [decide_eq_false_iff_not] at q1
  simp -implicitDefEqProofs (disch:=first|exact dz _|fail) only [↓AM.R0,AM.R1,AM.R2,reduceAdd,reduceLeDiff,reduceEqDiff,reduceToNat,Nat.reduceLT,↓reduceIte,reduceEq,Int.reduceLT,reduceLE]
  rw [dd2]
  refine AM.cI_bool (fun q2=>?_) (fun q2=>?_)
  ·simp only [decide_eq_true_eq] at q2
   simp -implicitDefEqProofs (disch:=first|exact dz _|fail) only [↓AM.R0,AM.R1,AM.R2,reduceAdd,reduceLeDiff,reduceEqDiff,reduceToNat,Nat.reduceLT,↓reduceIte,reduceEq,Int.reduceLT,reduceLE,w4]
   subst hQ
   refine ⟨?_,?_⟩
   ·(repeat (first | exact HFrame.refl (by simp) | assumption | refine HFrame.setTmp ?_ (by omega) _ | refine HFrame.pushTmp ?_ _))
   ·simp only [encS,bothF,if_neg q1,if_pos q2]
  ·simp only [decide_eq_false_iff_not] at q2
   simp -implicitDefEqProofs (disch:=first|exact dz _|fail) only [↓AM.R0,AM.R1,AM.R2,reduceAdd,reduceLeDiff,reduceEqDiff,reduceToNat,Nat.reduceLT,↓reduceIte,reduceEq,Int.reduceLT,reduceLE]
   subst hQ
   refine ⟨?_,?_⟩
   ·(repeat (first | exact HFrame.refl (by simp) | assumption | refine HFrame.setTmp ?_ (by omega) _ | refine HFrame.pushTmp ?_ _))
   ·simp only [encS,bothF,if_neg q1,if_neg q2]
end Go.Proofs.YthillgheddpmhaaDoor.Pg
namespace Go.Proofs.YthillgheddpmhaaDoor.Pg
open Go Go.AM Go.Proofs.YthillgheddpmhaaDoor.AmGJ
open Nat (reduceAdd reduceLeDiff reduceEqDiff)
open Int (reduceToNat reduceEq reduceLE)
theorem flat_len:∀ l:List Sm,(l.flatMap encS).length=4*l.length
 | []=>rfl
 | a::l=>by simp only [List.flatMap_cons,List.length_append,flat_len l,encS,List.length_cons,List.length_nil];omega
theorem flat_at:∀ (l:List Sm) (j:Nat) (x:Sm),l[j]?=some x→((l.flatMap encS).drop (j*4)).take 4=encS x
 | [],j,x,h=>by simp at h
 | a::l,0,x,h=>by
  simp at h;subst h
  simp [List.flatMap_cons,encS]
 | a::l,j+1,x,h=>by
  rw [List.flatMap_cons,show (j+1)*4=4+j*4 by omega,←List.drop_drop]
  have:(encS a++l.flatMap encS).drop 4=l.flatMap encS:=by simp [encS]
  rw [this]
  exact flat_at l j x (by simpa using h)
theorem flat_set:∀ (l:List Sm) (j:Nat) (q:Sm),j<l.length→(l.flatMap encS).take (j*4)++encS q++(l.flatMap encS).drop (j*4+4)=(l.set j q).flatMap encS
 | [],j,q,h=>by simp at h
 | a::l,0,q,h=>by simp [encS]
 | a::l,j+1,q,h=>by
  have ih:=flat_set l j q (by simpa using h)
  rw [List.set_cons_succ,List.flatMap_cons,List.flatMap_cons,←ih]
  have h1:(encS a++l.flatMap encS).take ((j+1)*4)=encS a++(l.flatMap encS).take (j*4):=by
   rw [List.take_append]
   have:(encS a).length=4:=rfl
   rw [this,List.take_of_length_le (by rw [this];omega),show (j+1)*4-4=j*4 by omega]
  have h2:(encS a++l.flatMap encS).drop ((j+1)*4+4)=(l.flatMap encS).drop (j*4+4):=by
   rw [List.drop_append]
   have:(encS a).length=4:=rfl
   rw [this,List.drop_of_length_le (by rw [this];omega),List.nil_append]
   congr 1
   omega
  rw [h1,h2];simp only [List.append_assoc]
theorem ix1 {H:AHeap} {j g len:Nat} {ro:Bool} {vs:List AVal} (e:H.get j=.cells g ro vs) {i:Nat} (h:i<len):ixV H 1 (.sl j g 0 len 1) (.int .i64 (i:Int))=some (.ptr j g i,H):=by
 have:=AM.ix_sl (k:=.i64) (n:=(i:Int)) (len:=len) (esz:=1) (off:=0) H e (by omega) (by omega)
 simpa using this
theorem ix4 {H:AHeap} {j g len:Nat} {ro:Bool} {vs:List AVal} (e:H.get j=.cells g ro vs) {i:Nat} (h:i<len):ixV H 4 (.sl j g 0 len 4) (.int .i64 (i:Int))=some (.ptr j g (i*4),H):=by
 have:=AM.ix_sl (k:=.i64) (n:=(i:Int)) (len:=len) (esz:=4) (off:=0) H e (by omega) (by omega)
 simpa using this
structure PI where
 id:Nat
 iu:Nat
 is:Nat
 gs:Nat
 ids:List Nat
def PI.F (p:PI):List Nat:=p.id::p.iu::p.is::p.ids
def svals (ids:List Nat) (lv:List (List Sm)):List AVal:=List.zipWith (fun k l=>.sl k 0 0 l.length 4) ids lv
def uvals (ws:List Nat):List AVal:=ws.map fun w:Nat=>AVal.int .u64 (w:Int)
structure PgR (h:AHeap) (p:PI) (n:Nat) (ws:List Nat) (lv:List (List Sm)):Prop where
 obj:h.get p.id=.cells 0 false [.int .i64 (n:Int),.sl p.iu 0 0 ws.length 1,.sl p.is p.gs 0 lv.length 1]
 used:h.get p.iu=.cells 0 false (uvals ws)
 sums:h.get p.is=.cells p.gs false (svals p.ids lv)
 lvl:∀ (k:Nat) (l:List Sm) (i:Nat),lv[k]?=some l→p.ids[k]?=some i→h.get i=.cells 0 false (l.flatMap encS)
 len:p.ids.length=lv.length
 ub:∀ w,w∈ws→w<18446744073709551616
 nd:p.F.Nodup
 lt:∀ j,j∈p.F→j<h.n
 n0:0 ∉ p.F
theorem PgR.frame {h h':AHeap} {p:PI} {n:Nat} {ws:List Nat} {lv:List (List Sm)} (R:PgR h p n ws lv) (hn:h.n≤h'.n) (k:∀ j,j∈p.F→h'.get j=h.get j):PgR h' p n ws lv:=by
 obtain ⟨a1,a2,a3,a4,a5,a6,a7,a8,a9⟩:=R
 refine ⟨(k _ (by simp [PI.F])).trans a1,(k _ (by simp [PI.F])).trans a2,(k _ (by simp [PI.F])).trans a3,fun q l i h1 h2=>(k _ ?_).trans (a4 q l i h1 h2),a5,a6,a7,fun j hj=>Nat.lt_of_lt_of_le (a8 j hj) hn,a9⟩
 have:=List.mem_of_getElem? h2
 simp [PI.F,this]
theorem svals_at {ids:List Nat} {lv:List (List Sm)} {k i:Nat} {l:List Sm} (h1:lv[k]?=some l) (h2:ids[k]?=some i):(svals ids lv)[k]?=some (.sl i 0 0 l.length 4):=by
 rw [svals,List.getElem?_zipWith,h2,h1]
theorem uvals_at {ws:List Nat} {i w:Nat} (h:ws[i]?=some w):(uvals ws)[i]?=some (.int .u64 (w:Int)):=by unfold uvals;rw [List.getElem?_map,h];rfl
def fw (ws:List Nat) (p:Nat):Bool:=match ws[p / 64]? with
 | some w=>fr w (p%64)
 | none=>false
def Val (f:Nat→Bool) (M k j:Nat) (x:Sm):Prop:=IsSum f (min (64*8^k*j) M) (min (64*8^k*(j+1)) M) x
def cl (m:Nat):Nat→Nat
 | 0=>m
 | k+1=>(cl m k+7) / 8
def Shape (m:Nat) (lv:List (List Sm)):Prop:=∀ k l,lv[k]?=some l→l.length=cl m k
theorem cl_ge (m:Nat):∀ k,m≤8^k*cl m k
 | 0=>by simp [cl]
 | k+1=>by
  have:=cl_ge m k
  rw [Nat.pow_succ,Nat.mul_assoc]
  refine Nat.le_trans this (Nat.mul_le_mul_left _ ?_)
  rw [cl];omega
theorem cl_div {m i:Nat} (hi:i<m):∀ k,i / 8^k<cl m k
 | 0=>by simpa [cl] using hi
 | k+1=>by
  have:=cl_div hi k
  rw [Nat.pow_succ,←Nat.div_div_eq_div_mul,cl];omega
theorem IsSum.shift {f g:Nat→Bool} {b:Nat} {q:Sm} (h:∀ t,t<64→f (b+t)=g t) (H:IsSum g 0 64 q):IsSum f b (b+64) q:=by
 obtain ⟨le,all,s1,s2,s3,e1,e2,e3,⟨p,m1,m2,m3⟩,m4⟩:=H
 have rc:∀ p k,p+k≤64→(Row g p k↔Row f (b+p) k):=fun p k h1=>by
  constructor
  ·intro r t ht;rw [Nat.add_assoc,h _ (by omega)];exact r t ht
  ·intro r t ht;rw [←h _ (by omega),←Nat.add_assoc];exact r t ht
 refine ⟨by omega,by omega,(rc 0 _ (by omega)).1 s1,by omega,fun q1=>?_,?_,by omega,fun q1=>?_,⟨b+p,by omega,by omega,(rc _ _ (by omega)).1 m3⟩,fun p k h1 h2 r=>?_⟩
 ·rw [h _ (by omega)];have:=s3 (by omega);rwa [Nat.zero_add] at this
 ·have:=(rc _ _ (by omega)).1 e1
  rwa [show b+(64-q.e)=b+64-q.e by omega] at this
 ·have:=e3 (by omega)
  rw [show b+64-q.e-1=b+(64-q.e-1) by omega,h _ (by omega)];exact this
 ·refine m4 (p-b) k (by omega) (by omega) ((rc _ _ (by omega)).2 ?_)
  rwa [show b+(p-b)=p by omega]
theorem IsSum.ok {f:Nat→Bool} {x y:Nat} {q:Sm} (H:IsSum f x y q) (h:y-x≤1048576):SmOk q:=by
 have a:=H.all;have b:=H.s2;have c:=H.e2
 obtain ⟨p,m1,m2,_⟩:=H.m1
 exact ⟨by omega,by omega,by omega,by omega⟩
theorem fw_at {ws:List Nat} {i w:Nat} (h:ws[i]?=some w) {t:Nat} (ht:t<64):fw ws (64*i+t)=fr w t:=by
 unfold fw
 rw [show (64*i+t) / 64=i by omega,h,show (64*i+t)%64=t by omega]
end Go.Proofs.YthillgheddpmhaaDoor.Pg
namespace Go.Proofs.YthillgheddpmhaaDoor.Pg
open Go Go.AM Go.Proofs.YthillgheddpmhaaDoor.AmGJ
open Nat (reduceAdd reduceLeDiff reduceEqDiff)
open Int (reduceToNat reduceEq reduceLE)
theorem PgR.mem {h:AHeap} {p:PI} {n:Nat} {ws:List Nat} {lv:List (List Sm)} (R:PgR h p n ws lv) {k i:Nat} (hk:p.ids[k]?=some i):i<h.n∧i≠p.id∧i≠p.iu∧i≠p.is∧i∈p.F:=by
 have hm:=List.mem_of_getElem? hk
 have nd:=R.nd
 simp only [PI.F,List.nodup_cons,List.mem_cons,not_or] at nd
 obtain ⟨⟨n1,n2,n3⟩,⟨n4,n5⟩,n6,_⟩:=nd
 refine ⟨R.lt i (by simp [PI.F,hm]),?_,?_,?_,by simp [PI.F,hm]⟩
 ·rintro rfl;exact n3 hm
 ·rintro rfl;exact n5 hm
 ·rintro rfl;exact n6 hm
theorem PgR.basic {h:AHeap} {p:PI} {n:Nat} {ws:List Nat} {lv:List (List Sm)} (R:PgR h p n ws lv):p.id<h.n∧p.iu<h.n∧p.is<h.n∧p.id≠p.iu∧p.id≠p.is∧p.iu≠p.is:=by
 have nd:=R.nd
 simp only [PI.F,List.nodup_cons,List.mem_cons,not_or] at nd
 obtain ⟨⟨n1,n2,n3⟩,⟨n4,n5⟩,n6,_⟩:=nd
 exact ⟨R.lt _ (by simp [PI.F]),R.lt _ (by simp [PI.F]),R.lt _ (by simp [PI.F]),n1,n2,n4⟩
theorem svals_set (ids:List Nat) (lv:List (List Sm)) (k:Nat) (l:List Sm) (h:∀ l0,lv[k]?=some l0→l.length=l0.length):svals ids (lv.set k l)=svals ids lv:=by
 apply List.ext_getElem?
 intro j
 simp only [svals,List.getElem?_zipWith]
 by_cases e:k=j
 ·subst e
  by_cases hk:k<lv.length
  ·rw [List.getElem?_set_self hk]
   have:=h _ (List.getElem?_eq_getElem hk)
   rw [List.getElem?_eq_getElem hk]
   cases ids[k]? with
   | none=>rfl
   | some a=>simp only [this]
  ·rw [List.set_eq_of_length_le (by omega)]
 ·rw [List.getElem?_set_ne e]
theorem PgR.put {h:AHeap} {p:PI} {n:Nat} {ws:List Nat} {lv:List (List Sm)} (R:PgR h p n ws lv) {k i:Nat} {l:List Sm} (hl:lv[k]?=some l) (hk:p.ids[k]?=some i) (j:Nat) (q:Sm) :
  PgR (h.set i (.cells 0 false ((l.set j q).flatMap encS))) p n ws (lv.set k (l.set j q)):=by
 obtain ⟨b1,b2,b3,b4,b5⟩:=R.mem hk
 have hlen:(l.set j q).length=l.length:=by simp
 refine ⟨?_,?_,?_,?_,by simpa using R.len,R.ub,R.nd,fun x hx=>by simpa using R.lt x hx,R.n0⟩
 ·rw [AHeap.get_set_ne _ _ (Ne.symm b2),List.length_set];exact R.obj
 ·rw [AHeap.get_set_ne _ _ (Ne.symm b3)];exact R.used
 ·rw [AHeap.get_set_ne _ _ (Ne.symm b4),svals_set _ _ _ _ (fun l0 h0=>by rw [hl] at h0;cases h0;exact hlen)];exact R.sums
 ·intro k' l' i' h1 h2
  by_cases e:k=k'
  ·subst e
   rw [hk] at h2;cases h2
   rw [List.getElem?_set_self (List.getElem?_eq_some_iff.1 hl).1] at h1
   cases h1
   exact AHeap.get_set_same _ _ _
  ·rw [List.getElem?_set_ne e] at h1
   have hne:i'≠i:=by
    rintro rfl
    have nd:=R.nd
    simp only [PI.F,List.nodup_cons] at nd
    obtain ⟨_,_,_,nd⟩:=nd
    obtain ⟨x1,x2⟩:=List.getElem?_eq_some_iff.1 hk
    obtain ⟨y1,y2⟩:=List.getElem?_eq_some_iff.1 h2
    exact e ((List.getElem_inj nd).1 (x2.trans y2.symm))
   rw [AHeap.get_set_ne _ _ hne]
   exact R.lvl k' l' i' h1 h2
theorem shape_set {m:Nat} {lv:List (List Sm)} (S:Shape m lv) {k:Nat} {l:List Sm} (hl:lv[k]?=some l) (j:Nat) (q:Sm):Shape m (lv.set k (l.set j q)):=fun k' l' h=>by
 by_cases e:k=k'
 ·subst e
  rw [List.getElem?_set_self (List.getElem?_eq_some_iff.1 hl).1] at h
  cases h
  rw [List.length_set];exact S k l hl
 ·rw [List.getElem?_set_ne e] at h;exact S k' l' h
theorem slB {H:AHeap} {j g len a b:Nat} {ro:Bool} {vs:List AVal} (e:H.get j=.cells g ro vs) (h1:a≤b) (h2:b≤len):slV H 4 (.sl j g 0 len 4) (some (.int .i64 (a:Int))) (some (.int .i64 (b:Int)))=some (.sl j g (a*4) (b-a) 4,H):=by
 have:=AM.sl_both (h:=H) (id:=j) (g:=g) (off:=0) (len:=len) (esz:=4) (k:=.i64) (k':=.i64) (m:=(a:Int)) (n:=(b:Int)) (by omega) (by omega) (by omega)
 rw [this,e,AM.slO_cells]
 simp
theorem ixOff {H:AHeap} {j g off len:Nat} {ro:Bool} {vs:List AVal} (e:H.get j=.cells g ro vs) {i:Nat} (h:i<len):ixV H 4 (.sl j g off len 4) (.int .i64 (i:Int))=some (.ptr j g (off+i*4),H):=by
 have:=AM.ix_sl (k:=.i64) (n:=(i:Int)) (len:=len) (esz:=4) (off:=off) H e (by omega) (by omega)
 simpa using this
def SmB (k:Nat) (x:Sm):Prop:=x.s≤x.a∧x.m≤x.a∧x.e≤x.a∧x.a≤64*8^k
theorem IsSum.bd {f:Nat→Bool} {x y:Nat} {q:Sm} (H:IsSum f x y q):q.s≤q.a∧q.m≤q.a∧q.e≤q.a∧q.a=y-x:=by
 have a:=H.all;have b:=H.s2;have c:=H.e2
 obtain ⟨p,m1,m2,_⟩:=H.m1
 exact ⟨by omega,by omega,by omega,by omega⟩
theorem pow8 {x:Nat} (h:x≤2):8^x≤64:=by
 rcases x with _ | _ | _ | x
 ·decide
 ·decide
 ·decide
 ·omega
set_option maxHeartbeats 8000000 in
theorem renewG {h:AHeap} (T:TabR h) {p:PI} {n:Nat} {ws:List Nat} {lv:List (List Sm)} (R:PgR h p n ws lv) (S:Shape ws.length lv) (hne:0<lv.length) (hm:ws.length≤64) {i:Nat} (hi:i<ws.length) (hL:lv.length≤3) (G:Nat→Nat→Prop)
  (hG:∀ k j j',G (k+1) j→8*j≤j'→j'<8*j+8→j'<cl ws.length k→G k j')
  (B:∀ (k:Nat) (l:List Sm) (j:Nat) (x:Sm),lv[k]?=some l→l[j]?=some x→SmB k x)
  (OK:∀ (k:Nat) (l:List Sm) (j:Nat) (x:Sm),lv[k]?=some l→l[j]?=some x→G k j→j≠i / 8^k→Val (fw ws) (64*ws.length) k j x) :
  CallP AP 57 [.ptr p.id 0 0,.int .i64 (i:Int)] h fun r h'=>∃ lv',HFrame h h' p.F p.F∧PgR h' p n ws lv'∧Shape ws.length lv'∧lv'.length=lv.length∧(∀ (k:Nat) (l:List Sm) (j:Nat) (x:Sm),lv'[k]?=some l→l[j]?=some x→G k j→Val (fw ws) (64*ws.length) k j x) ∧
   (∀ (k:Nat) (l:List Sm) (j:Nat) (x:Sm),lv'[k]?=some l→l[j]?=some x→SmB k x)∧r=.tup []:=by
 refine callP (rfl:Tr.get AP 57=some A57) ?_
 generalize hQ:(fun (r:AVal) (h':AHeap)=>_)=Q
 obtain ⟨l0,hl0⟩:∃ l,lv[0]?=some l:=⟨_,List.getElem?_eq_getElem hne⟩
 obtain ⟨i0,hi0⟩:∃ l,p.ids[0]?=some l:=⟨_,List.getElem?_eq_getElem (by have:=R.len;omega)⟩
 obtain ⟨w,hw⟩:∃ w,ws[i]?=some w:=⟨_,List.getElem?_eq_getElem hi⟩
 obtain ⟨b1,b2,b3,b4,b5,b6⟩:=R.basic
 obtain ⟨c1,c2,c3,c4,c5⟩:=R.mem hi0
 have g1:=R.obj
 have g2:=R.used
 have g3:=R.sums
 have g4:=R.lvl _ _ _ hl0 hi0
 have sv:=svals_at hl0 hi0
 have uv:=uvals_at hw
 have ll:l0.length=ws.length:=S 0 l0 hl0
 have x1:ixV h 1 (.sl p.is p.gs 0 lv.length 1) (.int .i64 0)=some (.ptr p.is p.gs 0,h):=ix1 g3 (i:=0) hne
 have x2:=ix1 g2 (len:=ws.length) hi
 simp -implicitDefEqProofs (disch:=first|exact dz _|fail) only [↓AM.R0,AM.R1,AM.R2,reduceAdd,reduceLeDiff,reduceEqDiff,reduceToNat,Nat.reduceLT,↓reduceIte,reduceEq,Int.reduceLT,reduceLE,g1,g2,g3,sv,uv,x1,x2]
 refine AM.trCall_of (ofW T (R.ub w (List.mem_of_getElem? hw))) ?_
 rintro r h1 ⟨f1,q,rfl,hq⟩
 have R1:=R.frame f1.n (fun j hj=>f1.get j (R.lt j hj) (by simp))
 have T1:=T.frame f1 (by simp)
 have g1':=R1.obj
 have g3':=R1.sums
 have g4':=R1.lvl _ _ _ hl0 hi0
 have n1:=f1.n
 have x1':ixV h1 1 (.sl p.is p.gs 0 lv.length 1) (.int .i64 0)=some (.ptr p.is p.gs 0,h1):=ix1 g3' (i:=0) hne
 have x4':=ix4 g4' (len:=l0.length) (i:=i) (by omega)
 have hfl:i*4+4≤(l0.flatMap encS).length:=by rw [flat_len];omega
 have fs:=flat_set l0 i q (by omega)
 simp only [encS] at fs
 have R2:=R1.put hl0 hi0 i q
 have S2:=shape_set S hl0 i q
 have f2:HFrame h (h1.set i0 (.cells 0 false ((l0.set i q).flatMap encS))) p.F p.F:=(f1.wide (G:=p.F) (G':=p.F) (by simp) (by simp) R.lt).trans (HFrame.set h1 i0 _ c5 R1.lt)
 simp -implicitDefEqProofs (disch:=first|exact dz _|fail) only [↓AM.R0,AM.R1,AM.R2,reduceAdd,reduceLeDiff,reduceEqDiff,reduceToNat,Nat.reduceLT,↓reduceIte,reduceEq,Int.reduceLT,reduceLE,g1',g3',g4',sv,x1',x4',encS,hfl,fs]
 have V1:∀ (k:Nat) (l:List Sm) (j:Nat) (y:Sm),(lv.set 0 (l0.set i q))[k]?=some l→l[j]?=some y→G k j→(k<1∨j≠i / 8^k)→Val (fw ws) (64*ws.length) k j y:=by
  intro k l j y h1 h2 hg h3
  by_cases e:k=0
  ·subst e
   rw [List.getElem?_set_self hne] at h1;cases h1
   by_cases ej:j=i
   ·subst ej
    rw [List.getElem?_set_self (by omega)] at h2;cases h2
    have:=hq.shift (f:=fw ws) (b:=64*j) (fun t ht=>fw_at hw ht)
    unfold Val
    rw [show min (64*8^0*j) (64*ws.length)=64*j by rw [Nat.pow_zero];omega,show min (64*8^0*(j+1)) (64*ws.length)=64*j+64 by rw [Nat.pow_zero];omega]
    exact this
   ·rw [List.getElem?_set_ne (Ne.symm ej)] at h2
    exact OK 0 l0 j y hl0 h2 hg (by rw [Nat.pow_zero,Nat.div_one];exact ej)
  ·rw [List.getElem?_set_ne (Ne.symm e)] at h1
   exact OK k l j y h1 h2 hg (by omega)
 have B1:∀ (k:Nat) (l:List Sm) (j:Nat) (y:Sm),(lv.set 0 (l0.set i q))[k]?=some l→l[j]?=some y→SmB k y:=by
  intro k l j y h1 h2
  by_cases e:k=0
  ·subst e
   rw [List.getElem?_set_self hne] at h1;cases h1
   by_cases ej:j=i
   ·subst ej
    rw [List.getElem?_set_self (by omega)] at h2;cases h2
    obtain ⟨d1,d2,d3,d4⟩:=hq.bd
    exact ⟨d1,d2,d3,by rw [d4,Nat.pow_zero];omega⟩
   ·rw [List.getElem?_set_ne (Ne.symm ej)] at h2
    exact B 0 l0 j y hl0 h2
  ·rw [List.getElem?_set_ne (Ne.symm e)] at h1
   exact B k l j y h1 h2
 generalize hlv1:lv.set 0 (l0.set i q)=lv1 at R2 S2 V1 B1
 have hlen1:lv1.length=lv.length:=by rw [←hlv1,List.length_set]
 refine AM.loopI_of (fun k e h'=>∃ (x:Nat) (lx:List (List Sm)),k+x=lv.length∧1≤x∧e.val 0=.ptr p.id 0 0∧e.val 1=.int .i64 ((i / 8^(x-1):Nat):Int)∧e.val 4=.int .i64 (x:Int)∧HFrame h h' p.F p.F∧PgR h' p n ws lx∧Shape ws.length lx∧lx.length=lv.length ∧
  (∀ (k:Nat) (l:List Sm) (j:Nat) (y:Sm),lx[k]?=some l→l[j]?=some y→G k j→(k<x∨j≠i / 8^k)→Val (fw ws) (64*ws.length) k j y) ∧
  (∀ (k:Nat) (l:List Sm) (j:Nat) (y:Sm),lx[k]?=some l→l[j]?=some y→SmB k y)) (lv.length-1) ?_ ?_
 ·refine ⟨1,lv1,by omega,by omega,?_,?_,?_,f2,R2,S2,hlen1,V1,B1⟩<;>simp -implicitDefEqProofs (disch:=first|exact dz _|fail) only [↓AM.R0,AM.R1,AM.R2,reduceAdd,reduceLeDiff,reduceEqDiff,reduceToNat,Nat.reduceLT,↓reduceIte,reduceEq,Int.reduceLT,reduceLE]<;>first | rfl | (simp;done) | skip
 ·clear R2 f2 S2 V1 B1 B
  rintro k e h' ⟨x,lx,hk,hx1,e0,e1,e4,fr,R,S,hlx,V,B⟩
  have g1:=R.obj
  have g3:=R.sums
  obtain ⟨b1,b2,b3,b4,b5,b6⟩:=R.basic
  simp -implicitDefEqProofs (disch:=first|exact dz _|fail) only [↓AM.R0,AM.R1,AM.R2,reduceAdd,reduceLeDiff,reduceEqDiff,reduceToNat,Nat.reduceLT,↓reduceIte,reduceEq,Int.reduceLT,reduceLE,e0,e4,g1]
  refine AM.cI_bool (fun hb=>?_) (fun hb=>?_)
  ·simp only [decide_eq_true_eq] at hb
   obtain ⟨la,hla⟩:∃ l,lx[x-1]?=some l:=⟨_,List.getElem?_eq_getElem (by omega)⟩
   obtain ⟨lb,hlb⟩:∃ l,lx[x]?=some l:=⟨_,List.getElem?_eq_getElem (by omega)⟩
   obtain ⟨ia,hia⟩:∃ l,p.ids[x-1]?=some l:=⟨_,List.getElem?_eq_getElem (by have:=R.len;omega)⟩
   obtain ⟨ib,hib⟩:∃ l,p.ids[x]?=some l:=⟨_,List.getElem?_eq_getElem (by have:=R.len;omega)⟩
   obtain ⟨u1,u2,u3,u4,u5⟩:=R.mem hia
   obtain ⟨v1,v2,v3,v4,v5⟩:=R.mem hib
   have ga:=R.lvl _ _ _ hla hia
   have gb:=R.lvl _ _ _ hlb hib
   have sa:=svals_at hla hia
   have sb:=svals_at hlb hib
   have lena:=S _ _ hla
   have lenb:=S _ _ hlb
   obtain ⟨x',rfl⟩:∃ x',x=x'+1:=⟨x-1,by omega⟩
   rw [Nat.add_sub_cancel] at hla hia lena e1 sa
   have hcd:=cl_div hi (x'+1)
   have hq8:i / 8^x' / 8=i / 8^(x'+1):=by rw [Nat.div_div_eq_div_mul,Nat.pow_succ]
   have lenb':lb.length=(la.length+7) / 8:=by rw [lenb,lena];rfl
   have hlam:la.length≤64:=by
    rw [lena]
    have:∀ k,cl ws.length k≤64:=fun k=>by
     induction k with
     | zero=>exact hm
     | succ k ih=>rw [cl];omega
    exact this x'
   rw [←lenb] at hcd
   generalize hq:i / 8^(x'+1)=q8 at hcd hq8
   have hi64:i / 8^x'≤64:=Nat.le_trans (Nat.div_le_self _ _) (by omega)
   have w1:IntKind.i64.wrap (((i / 8^x':Nat):Int).tdiv 8)=(q8:Int):=by
    rw [show (((i / 8^x':Nat):Int).tdiv 8)=((i / 8^x' / 8:Nat):Int) from rfl,hq8]
    exact wrap64 (by omega) (by omega)
   have w2:IntKind.i64.wrap (((x'+1:Nat):Int)-1)=(x':Int):=(wrap64 (by omega) (by omega)).trans (by omega)
   have w3:IntKind.i64.wrap (8*(q8:Int))=((8*q8:Nat):Int):=(wrap64 (by omega) (by omega)).trans (by omega)
   have w4:IntKind.i64.wrap (((8*q8:Nat):Int)+8)=((8*q8+8:Nat):Int):=(wrap64 (by omega) (by omega)).trans (by omega)
   have w5:min ((8*q8+8:Nat):Int) (la.length:Int)=((min (8*q8+8) la.length:Nat):Int):=by omega
   have fP:=(HFrame.refl (h:=h') (F:=[]) (by simp)).pushTmp (.cells 0 false [.int .i64 0,.int .i64 0,.int .i64 0,.int .i64 0])
   have gP:(h'.push (.cells 0 false [.int .i64 0,.int .i64 0,.int .i64 0,.int .i64 0])).get h'.n=.cells 0 false [.int .i64 0,.int .i64 0,.int .i64 0,.int .i64 0]:=AHeap.get_push_same _ _
   have nP:(h'.push (.cells 0 false [.int .i64 0,.int .i64 0,.int .i64 0,.int .i64 0])).n=h'.n+1:=by simp
   obtain ⟨hP,hhP⟩:∃ hP,hP=h'.push (.cells 0 false [.int .i64 0,.int .i64 0,.int .i64 0,.int .i64 0]):=⟨_,rfl⟩
   rw [←hhP] at fP gP nP
   have RP:=R.frame fP.n (fun j hj=>fP.get j (R.lt j hj) (by simp))
   have g1P:=RP.obj
   have g3P:=RP.sums
   have gaP:=RP.lvl _ _ _ hla hia
   have y1:=ix1 g3P (len:=lx.length) (i:=x') (by omega)
   have y2:=slB gaP (len:=la.length) (a:=8*q8) (b:=min (8*q8+8) la.length) (by omega) (by omega)
   simp -implicitDefEqProofs (disch:=first|exact dz _|fail) only [↓AM.R0,AM.R1,AM.R2,reduceAdd,reduceLeDiff,reduceEqDiff,reduceToNat,Nat.reduceLT,↓reduceIte,reduceEq,Int.reduceLT,reduceLE,e0,e1,e4,w1,←hhP,g1P,g3P,sa,w2,w3,w4,w5,y1,y2]
   have VA:∀ (j:Nat) (y:Sm),la[j]?=some y→G x' j→Val (fw ws) (64*ws.length) x' j y:=fun j y hy hg=>V x' la j y hla hy hg (.inl (by omega))
   have BA:∀ (j:Nat) (y:Sm),la[j]?=some y→SmB x' y:=fun j y hy=>B x' la j y hla hy
   have hp8:=pow8 (x:=x') (by omega)
   have hM:64*ws.length≤4096:=by omega
   generalize hMM:64*ws.length=M at hM VA V
   have hpos:∀ j,min (64*8^x'*j) M≤M:=fun j=>Nat.min_le_right _ _
   have hcnt:min (8*q8+8) la.length-8*q8≤8:=by omega
   have fP':=fr.pushTmp (.cells 0 false [.int .i64 0,.int .i64 0,.int .i64 0,.int .i64 0])
   rw [←hhP] at fP'
   clear hhP
   refine AM.loopI_of (fun k e h3=>∃ (t:Nat) (s:Sm),k+t=min (8*q8+8) la.length-8*q8∧e.val 0=.ptr p.id 0 0∧e.val 1=.int .i64 (q8:Int)∧e.val 4=.int .i64 ((x'+1:Nat):Int)∧e.val 5=.ptr h'.n 0 0∧e.val 58=.sl ia 0 (8*q8*4) (min (8*q8+8) la.length-8*q8) 4∧e.val 59=.int .i64 ((min (8*q8+8) la.length-8*q8:Nat):Int)∧e.val 60=.int .i64 (t:Int) ∧
    HFrame h' h3 [] []∧h'.n<h3.n∧h3.get h'.n=.cells 0 false (encS s)∧s.s≤s.a∧s.m≤s.a∧s.e≤s.a∧s.a≤64*8^x'*t∧(G (x'+1) q8→IsSum (fw ws) (min (64*8^x'*(8*q8)) M) (min (64*8^x'*(8*q8+t)) M) s)) (min (8*q8+8) la.length-8*q8) ?_ ?_
   ·refine ⟨0,⟨0,0,0,0⟩,by omega,?_,?_,?_,?_,?_,?_,?_,fP,by omega,gP,Nat.le_refl _,Nat.le_refl _,Nat.le_refl _,Nat.zero_le _,fun _=>IsSum.nil _ _⟩<;>simp -implicitDefEqProofs (disch:=first|exact dz _|fail) only [↓AM.R0,AM.R1,AM.R2,reduceAdd,reduceLeDiff,reduceEqDiff,reduceToNat,Nat.reduceLT,↓reduceIte,reduceEq,Int.reduceLT,reduceLE,e0,e1,e4]<;>first | rfl | skip
   ·clear e0 e1 e4 gP g1P g3P gaP y1 y2 RP nP
    rintro k2 e h3 ⟨t,s,hkt,e0,e1,e4,e5,e58,e59,e60,f3,n3,gs,s1,s2,s3,s4,hs⟩
    simp -implicitDefEqProofs (disch:=first|exact dz _|fail) only [↓AM.R0,AM.R1,AM.R2,reduceAdd,reduceLeDiff,reduceEqDiff,reduceToNat,Nat.reduceLT,↓reduceIte,reduceEq,Int.reduceLT,reduceLE,e59,e60]
    refine AM.cI_bool (fun hc=>?_) (fun hc=>?_)
    ·simp only [decide_eq_true_eq] at hc
     obtain ⟨y,hy⟩:∃ y,la[8*q8+t]?=some y:=⟨_,List.getElem?_eq_getElem (by omega)⟩
     have hvy:=VA _ _ hy
     unfold Val at hvy
     obtain ⟨y1,y2,y3,y4⟩:=BA _ _ hy
     have ht8:t≤8:=by omega
     have hs4:s.a≤64*64*8:=Nat.le_trans s4 (Nat.mul_le_mul (Nat.mul_le_mul_left _ hp8) ht8)
     have ga3:=(f3.get ia u1 (by simp)).trans ga
     have hfa:=flat_at la _ y hy
     have hfa2:8*q8*4+t*4+4≤(la.flatMap encS).length:=by rw [flat_len];omega
     rw [show (8*q8+t)*4=8*q8*4+t*4 by omega] at hfa
     have yo:=ixOff ga3 (off:=8*q8*4) (len:=min (8*q8+8) la.length-8*q8) (i:=t) (by omega)
     have lt3:ia<h3.n:=by have:=f3.n;omega
     have wt:IntKind.i64.wrap ((t:Int)+1)=((t+1:Nat):Int):=(wrap64 (by omega) (by omega)).trans (by omega)
     have f4:=(f3.pushTmp (.cells 0 false [.int .i64 0,.int .i64 0,.int .i64 0,.int .i64 0])).setTmp (i:=h3.n) f3.n (.cells 0 false (encS y))
     have okS:SmOk s:=⟨s1,s2,s3,by omega⟩
     have okY:SmOk y:=⟨y1,y2,y3,by omega⟩
     have gs':h3.get h'.n=.cells 0 false [.int .i64 (s.s:Int),.int .i64 (s.m:Int),.int .i64 (s.e:Int),.int .i64 (s.a:Int)]:=gs
     have g4:((h3.push (.cells 0 false [.int .i64 0,.int .i64 0,.int .i64 0,.int .i64 0])).set h3.n (.cells 0 false (encS y))).get h'.n=.cells 0 false (encS s):=by
      rw [AHeap.get_set_ne _ _ (by omega),AHeap.get_push_ne _ _ (by omega)];exact gs
     have n4:∀ o o':AObj,((h3.push o).set h3.n o').n=h3.n+1:=fun o o'=>by simp
     simp -implicitDefEqProofs (disch:=first|exact dz _|fail) only [↓AM.R0,AM.R1,AM.R2,reduceAdd,reduceLeDiff,reduceEqDiff,reduceToNat,Nat.reduceLT,↓reduceIte,reduceEq,Int.reduceLT,reduceLE,e0,e1,e4,e5,e58,e59,e60,ga3,yo,hfa,encS,gs']
     refine AM.callI_of (bothW okS okY) ?_
     rintro r h5 ⟨f5,rfl⟩
     have g5:=(f5.get h'.n (by rw [n4];omega) (by simp)).trans g4
     have n5:h'.n<h5.n:=by have:=f5.n;rw [n4] at this;omega
     have f35:=f4.trans f5
     have f6:=f35.setTmp (i:=h'.n) (Nat.le_refl _) (.cells 0 false (encS (bothF s y)))
     have hb6:G (x'+1) q8→IsSum (fw ws) (min (64*8^x'*(8*q8)) M) (min (64*8^x'*(8*q8+(t+1))) M) (bothF s y):=fun hg =>
      (hs hg).both (hvy (hG _ _ _ hg (by omega) (by omega) (by rw [←lena];omega)))
     obtain ⟨z1,z2,z3,z4⟩:(bothF s y).s≤(bothF s y).a∧(bothF s y).m≤(bothF s y).a∧(bothF s y).e≤(bothF s y).a∧(bothF s y).a≤64*8^x'*(t+1):=by
      rw [Nat.mul_succ]
      unfold bothF
      refine ⟨?_,?_,?_,?_⟩<;>simp only<;>first | omega | (split<;>omega)
     have g5':h5.get h'.n=.cells 0 false [.int .i64 (s.s:Int),.int .i64 (s.m:Int),.int .i64 (s.e:Int),.int .i64 (s.a:Int)]:=g5
     generalize bothF s y=sy at f6 hb6 z1 z2 z3 z4 ⊢
     simp -implicitDefEqProofs (disch:=first|exact dz _|fail) only [↓AM.R0,AM.R1,AM.R2,reduceAdd,reduceLeDiff,reduceEqDiff,reduceToNat,Nat.reduceLT,↓reduceIte,reduceEq,Int.reduceLT,reduceLE,e0,e1,e4,e5,e58,e59,e60,encS,g5',wt]
     simp only [encS] at f6
     exact ⟨k2-1,by omega,t+1,sy,by omega,rfl,f6,n5,rfl,z1,z2,z3,z4,hb6⟩
    ·simp only [decide_eq_false_iff_not] at hc
     have R3:=R.frame f3.n (fun j hj=>f3.get j (R.lt j hj) (by simp))
     have g1':=R3.obj
     have g3':=R3.sums
     have gb':=R3.lvl _ _ _ hlb hib
     have hq8l:q8<lb.length:=hcd
     have y1:=ix1 g3' (len:=lx.length) (i:=x'+1) (by omega)
     have y2:=ix4 gb' (len:=lb.length) (i:=q8) hcd
     have hfl:q8*4+4≤(lb.flatMap encS).length:=by rw [flat_len];omega
     have fs:=flat_set lb q8 s hcd
     simp only [encS] at fs
     have R4:=R3.put hlb hib q8 s
     have S4:=shape_set S hlb q8 s
     have gs':h3.get h'.n=.cells 0 false [.int .i64 (s.s:Int),.int .i64 (s.m:Int),.int .i64 (s.e:Int),.int .i64 (s.a:Int)]:=gs
     simp -implicitDefEqProofs (disch:=first|exact dz _|fail) only [↓AM.R0,AM.R1,AM.R2,reduceAdd,reduceLeDiff,reduceEqDiff,reduceToNat,Nat.reduceLT,↓reduceIte,reduceEq,Int.reduceLT,reduceLE,e0,e1,e4,e5,g1',g3',gb',gs',sb,y1,y2,hfl,fs]
     have wx:IntKind.i64.wrap (((x'+1:Nat):Int)+1)=((x'+2:Nat):Int):=(wrap64 (by omega) (by omega)).trans (by omega)
     have f5:=(fr.trans (f3.wide (G:=p.F) (G':=p.F) (by simp) (by simp) R.lt)).trans (HFrame.set h3 ib (.cells 0 false ((lb.set q8 s).flatMap encS)) v5 R3.lt)
     refine ⟨k-1,by omega,x'+2,lx.set (x'+1) (lb.set q8 s),by omega,by omega,?_,?_,f5,R4,S4,by rw [List.length_set];exact hlx,?_,?_⟩
     ·rw [show x'+2-1=x'+1 by omega,hq]
     ·rw [wx]
     ·intro k1 l j y h1 h2 hg h3
      by_cases ek:k1=x'+1
      ·subst ek
       rw [List.getElem?_set_self (by omega)] at h1;cases h1
       by_cases ej:j=q8
       ·subst ej
        rw [List.getElem?_set_self hcd] at h2;cases h2
        have ht:t=min (8*j+8) la.length-8*j:=by omega
        unfold Val
        have e1:64*8^(x'+1)*j=64*8^x'*(8*j):=by rw [Nat.pow_succ,←Nat.mul_assoc,←Nat.mul_assoc]
        have e2:min (64*8^(x'+1)*(j+1)) M=min (64*8^x'*(8*j+t)) M:=by
         rw [show 64*8^(x'+1)*(j+1)=64*8^x'*(8*j+8) by rw [Nat.pow_succ,←Nat.mul_assoc,Nat.mul_assoc (64*8^x') 8 (j+1)];rfl]
         rcases Nat.lt_or_ge la.length (8*j+8) with q | q
         ·have hge:M≤64*8^x'*la.length:=by
           have:=Nat.mul_le_mul_left 64 (cl_ge ws.length x')
           rw [←lena,←Nat.mul_assoc,hMM] at this
           exact this
          have h8:M≤64*8^x'*(8*j+8):=Nat.le_trans hge (Nat.mul_le_mul_left _ (by omega))
          rw [show 8*j+t=la.length by omega,Nat.min_eq_right hge,Nat.min_eq_right h8]
         ·rw [show 8*j+t=8*j+8 by omega]
        rw [e1,e2]
        exact hs hg
       ·rw [List.getElem?_set_ne (Ne.symm ej)] at h2
        exact V _ lb j y hlb h2 hg (.inr (by rw [hq];exact ej))
      ·rw [List.getElem?_set_ne (Ne.symm ek)] at h1
       exact V k1 l j y h1 h2 hg (by omega)
     ·intro k1 l j y h1 h2
      by_cases ek:k1=x'+1
      ·subst ek
       rw [List.getElem?_set_self (by omega)] at h1;cases h1
       by_cases ej:j=q8
       ·subst ej
        rw [List.getElem?_set_self hcd] at h2;cases h2
        exact ⟨s1,s2,s3,Nat.le_trans s4 (by rw [Nat.pow_succ,←Nat.mul_assoc];exact Nat.mul_le_mul_left _ (by omega))⟩
       ·rw [List.getElem?_set_ne (Ne.symm ej)] at h2
        exact B _ lb j y hlb h2
      ·rw [List.getElem?_set_ne (Ne.symm ek)] at h1
       exact B k1 l j y h1 h2
  ·simp only [decide_eq_false_iff_not] at hb
   simp -implicitDefEqProofs (disch:=first|exact dz _|fail) only [↓AM.R0,AM.R1,AM.R2,reduceAdd,reduceLeDiff,reduceEqDiff,reduceToNat,Nat.reduceLT,↓reduceIte,reduceEq,Int.reduceLT,reduceLE]
   subst hQ
   exact ⟨lx,fr,R,S,hlx,fun k l j y h1 h2 hg=>V k l j y h1 h2 hg (.inl (by have:=(List.getElem?_eq_some_iff.1 h1).1;omega)),B,rfl⟩
end Go.Proofs.YthillgheddpmhaaDoor.Pg
namespace Go.Proofs.YthillgheddpmhaaDoor.Pg
open Go Go.AM Go.Proofs.YthillgheddpmhaaDoor.AmGJ
open Nat (reduceAdd reduceLeDiff reduceEqDiff)
open Int (reduceToNat reduceEq reduceLE)
def shN (f:Nat):Nat:=18446744073709551615*2^f%18446744073709551616
theorem shN_bit (f j:Nat):(shN f).testBit j=(decide (j<64)&&decide (f≤j)):=by
 have e:shN f=((2^64-1) <<< f)%2^64:=by rw [Nat.shiftLeft_eq];rfl
 rw [e,Nat.testBit_mod_two_pow,Nat.testBit_shiftLeft,Nat.testBit_two_pow_sub_one]
 by_cases h1:j<64<;>by_cases h2:f≤j<;>simp [h1,h2]
 omega
theorem shl_nat {h:AHeap} {b:Nat} {l:IntKind} (hb:b≤64):binV h .shl (.int .u64 18446744073709551615) (.int l (b:Int))=some (.int .u64 ((shN b:Nat):Int),h):=by
 have:=bin_shl (h:=h) .u64 l 18446744073709551615 (b:Int) (by omega)
 rw [this]
 have e:min ((b:Int)).toNat IntKind.u64.bits=b:=by
  have:IntKind.u64.bits=64:=rfl
  rw [this];omega
 rw [e]
 have e2:IntKind.u64.wrap (18446744073709551615*2^b)=((shN b:Nat):Int):=by
  have e3:IntKind.u64.wrap (18446744073709551615*2^b)=(18446744073709551615*2^b)%18446744073709551616:=rfl
  rw [e3,shN,Int.natCast_emod,Int.natCast_mul,Int.natCast_pow]
  rfl
 rw [e2]
def maskN (f t:Nat):Nat:=shN f &&& (18446744073709551615 >>> (64-t))
theorem mask_bit {f t j:Nat} (ht:t≤64):(maskN f t).testBit j=(decide (f≤j)&&decide (j<t)):=by
 have e:(18446744073709551615:Nat)=2^64-1:=rfl
 rw [maskN,Nat.testBit_and,shN_bit,Nat.testBit_shiftRight,e,Nat.testBit_two_pow_sub_one]
 by_cases h1:j<t
 ·have q1:j<64:=by omega
  have q2:64-t+j<64:=by omega
  simp [h1,q1,q2]
 ·have q2:¬ 64-t+j<64:=by omega
  simp [h1,q2]
theorem shN_lt (f:Nat):shN f<18446744073709551616:=Nat.mod_lt _ (by decide)
theorem mask_lt (f t:Nat):maskN f t<18446744073709551616:=Nat.lt_of_le_of_lt Nat.and_le_left (shN_lt f)
theorem fr_or {w f t j:Nat} (ht:t≤64) (hj:j<64):fr (w ||| maskN f t) j=if f≤j∧j<t then false else fr w j:=by
 unfold fr
 rw [Nat.testBit_or,mask_bit ht]
 by_cases h1:f≤j<;>by_cases h2:j<t<;>simp [h1,h2,hj]
theorem fr_an {w f t j:Nat} (ht:t≤64) (hj:j<64):fr (w &&& (18446744073709551616-1-maskN f t)) j=if f≤j∧j<t then true else fr w j:=by
 unfold fr
 rw [Nat.testBit_and,compl_bit (mask_lt f t),fr,mask_bit ht]
 by_cases h1:f≤j<;>by_cases h2:j<t<;>simp [h1,h2,hj]
theorem or_lt {a b:Nat} (ha:a<18446744073709551616) (hb:b<18446744073709551616):a ||| b<18446744073709551616:=Nat.or_lt_two_pow (n:=64) ha hb
theorem fw_set {ws:List Nat} {i w':Nat} (hi:i<ws.length) (q:Nat):fw (ws.set i w') q=if q / 64=i then fr w' (q%64) else fw ws q:=by
 unfold fw
 by_cases e:q / 64=i
 ·rw [if_pos e,e,List.getElem?_set_self hi]
 ·rw [if_neg e,List.getElem?_set_ne (Ne.symm e)]
theorem PgR.word {h:AHeap} {p:PI} {n:Nat} {ws:List Nat} {lv:List (List Sm)} (R:PgR h p n ws lv) (i w':Nat) (hw:w'<18446744073709551616) :
  PgR (h.set p.iu (.cells 0 false (uvals (ws.set i w')))) p n (ws.set i w') lv:=by
 obtain ⟨b1,b2,b3,b4,b5,b6⟩:=R.basic
 refine ⟨?_,AHeap.get_set_same _ _ _,?_,fun k l j h1 h2=>?_,R.len,fun w hm=>?_,R.nd,fun x hx=>by simpa using R.lt x hx,R.n0⟩
 ·rw [AHeap.get_set_ne _ _ b4,List.length_set];exact R.obj
 ·rw [AHeap.get_set_ne _ _ (Ne.symm b6)];exact R.sums
 ·obtain ⟨c1,c2,c3,c4,c5⟩:=R.mem h2
  rw [AHeap.get_set_ne _ _ c3];exact R.lvl k l j h1 h2
 ·rcases List.mem_or_eq_of_mem_set hm with q | q
  ·exact R.ub w q
  ·rw [q];exact hw
structure PgV (h:AHeap) (p:PI) (n:Nat) (ws:List Nat) (lv:List (List Sm)):Prop where
 R:PgR h p n ws lv
 S:Shape ws.length lv
 ne:0<lv.length
 le:lv.length≤3
 top:cl ws.length (lv.length-1)=1
 V:∀ (k:Nat) (l:List Sm) (j:Nat) (x:Sm),lv[k]?=some l→l[j]?=some x→Val (fw ws) (64*ws.length) k j x
 n1:1≤n
 n2:n≤4096
 wl:ws.length=(n+63) / 64
 out:∀ q,n≤q→fw ws q=false
theorem Val.bd {f:Nat→Bool} {M k j:Nat} {x:Sm} (H:Val f M k j x):SmB k x:=by
 obtain ⟨a,b,c,d⟩:=IsSum.bd H
 refine ⟨a,b,c,?_⟩
 rw [d]
 have:64*8^k*(j+1)=64*8^k*j+64*8^k:=Nat.mul_succ _ _
 omega
theorem Val.away {ws:List Nat} {i w' k j:Nat} {x:Sm} (hi:i<ws.length) (hj:j≠i / 8^k) (H:Val (fw ws) (64*ws.length) k j x):Val (fw (ws.set i w')) (64*(ws.set i w').length) k j x:=by
 rw [List.length_set]
 refine IsSum.congr (fun q h1 h2=>?_) H
 rw [fw_set hi,if_neg]
 intro e
 apply hj
 rw [←e,Nat.div_div_eq_div_mul]
 symm
 have hM:q<64*ws.length:=by omega
 refine Nat.div_eq_of_lt_le ?_ ?_
 ·rw [Nat.mul_comm];omega
 ·rw [Nat.mul_comm];omega
theorem PgV.step {h:AHeap} (T:TabR h) {p:PI} {n:Nat} {ws:List Nat} {lv:List (List Sm)} (K:PgV h p n ws lv) {i w':Nat} (hi:i<ws.length) (hw:w'<18446744073709551616)
  (ho:∀ q,n≤q→q / 64=i→fr w' (q%64)=false):CallP AP 57 [.ptr p.id 0 0,.int .i64 (i:Int)] (h.set p.iu (.cells 0 false (uvals (ws.set i w')))) fun r h'=>∃ lv',HFrame h h' p.F p.F∧PgV h' p n (ws.set i w') lv'∧r=.tup []:=by
 have R1:=K.R.word i w' hw
 have f1:=HFrame.set h p.iu (.cells 0 false (uvals (ws.set i w'))) (F:=p.F) (by simp [PI.F]) K.R.lt
 have hl:(ws.set i w').length=ws.length:=List.length_set
 have hm:ws.length≤64:=by have:=K.wl;have:=K.n2;omega
 have:=renewG (T.frame f1 K.R.n0) R1 (by rw [hl];exact K.S) K.ne (by rw [hl];exact hm) (i:=i) (by rw [hl];exact hi) K.le (fun _ _=>True) (fun _ _ _ _ _ _ _=>trivial)
  (fun k l j x h1 h2=>(K.V k l j x h1 h2).bd) (fun k l j x h1 h2 _ hj=>(K.V k l j x h1 h2).away hi hj)
 refine this.mono ?_
 rintro r h' ⟨lv',f2,R2,S2,hlv,V2,B2,hr⟩
 refine ⟨lv',f1.trans f2,⟨R2,S2,by rw [hlv];exact K.ne,by rw [hlv];exact K.le,by rw [hl,hlv];exact K.top,fun k l j x h1 h2=>V2 k l j x h1 h2 trivial,K.n1,K.n2,by rw [hl];exact K.wl,fun q hq=>?_⟩,hr⟩
 rw [fw_set hi]
 split
 ·exact ho q hq ‹_›
 ·exact K.out q hq
set_option maxHeartbeats 8000000 in
theorem setW {h:AHeap} (T:TabR h) {p:PI} {n:Nat} {ws:List Nat} {lv:List (List Sm)} (K:PgV h p n ws lv) {b m:Nat} (hb:b+m≤n) (u:Bool) :
  CallP AP 60 [.ptr p.id 0 0,.int .i64 (b:Int),.int .i64 (m:Int),.bool u] h fun r h'=>∃ ws' lv',HFrame h h' p.F p.F∧PgV h' p n ws' lv'∧(∀ q,fw ws' q=if b≤q∧q<b+m then !u else fw ws q)∧r=.tup []:=by
 refine callP (rfl:Tr.get AP 60=some A60) ?_
 generalize hQ:(fun (r:AVal) (h':AHeap)=>_)=Q
 have hn2:=K.n2
 have n0:=K.R.n0
 simp -implicitDefEqProofs (disch:=first|exact dz _|fail) only [↓AM.R0,AM.R1,AM.R2,reduceAdd,reduceLeDiff,reduceEqDiff,reduceToNat,Nat.reduceLT,↓reduceIte,reduceEq,Int.reduceLT,reduceLE]
 refine AM.loopI_of (fun k e h'=>∃ (a:Nat) (ws':List Nat) (lv':List (List Sm)),k+a=b+m∧b≤a∧e.val 0=.ptr p.id 0 0∧e.val 1=.int .i64 (b:Int)∧e.val 2=.int .i64 (m:Int)∧e.val 3=.bool u∧e.val 8=.int .i64 (a:Int)∧HFrame h h' p.F p.F∧PgV h' p n ws' lv' ∧
  (∀ q,fw ws' q=if b≤q∧q<a then !u else fw ws q)) m ?_ ?_
 ·refine ⟨b,ws,lv,by omega,by omega,?_,?_,?_,?_,?_,HFrame.refl K.R.lt,K,fun q=>by rw [if_neg (by omega)]⟩<;>simp -implicitDefEqProofs (disch:=first|exact dz _|fail) only [↓AM.R0,AM.R1,AM.R2,reduceAdd,reduceLeDiff,reduceEqDiff,reduceToNat,Nat.reduceLT,↓reduceIte,reduceEq,Int.reduceLT,reduceLE]
 ·clear K
  rintro k e h' ⟨a,ws',lv',hk,hba,e0,e1,e2,e3,e8,fr1,K,hf⟩
  have w1:IntKind.i64.wrap ((b:Int)+(m:Int))=((b+m:Nat):Int):=(wrap64 (by omega) (by omega)).trans (by omega)
  simp -implicitDefEqProofs (disch:=first|exact dz _|fail) only [↓AM.R0,AM.R1,AM.R2,reduceAdd,reduceLeDiff,reduceEqDiff,reduceToNat,Nat.reduceLT,↓reduceIte,reduceEq,Int.reduceLT,reduceLE,e1,e2,e8,w1]
  refine AM.cI_bool (fun hc=>?_) (fun hc=>?_)
  ·simp only [decide_eq_true_eq] at hc
   have T':=T.frame fr1 n0
   have w2:IntKind.i64.wrap ((a:Int).tdiv 64)=((a / 64:Nat):Int):=wrap64 (n:=((a / 64:Nat):Int)) (by omega) (by omega)
   have w3:(a:Int).tmod 64=((a%64:Nat):Int):=rfl
   have w4:IntKind.i64.wrap (((a%64:Nat):Int)+(b:Int))=((a%64+b:Nat):Int):=(wrap64 (by omega) (by omega)).trans (by omega)
   have w5:IntKind.i64.wrap (((a%64+b:Nat):Int)+(m:Int))=((a%64+b+m:Nat):Int):=(wrap64 (by omega) (by omega)).trans (by omega)
   have w6:IntKind.i64.wrap (((a%64+b+m:Nat):Int)-(a:Int))=((a%64+b+m-a:Nat):Int):=(wrap64 (by omega) (by omega)).trans (by omega)
   have w7:min 64 ((a%64+b+m-a:Nat):Int)=((min 64 (a%64+b+m-a):Nat):Int):=by omega
   generalize hF:a%64=f at *
   generalize hI:a / 64=i at *
   generalize hT:min 64 (f+b+m-a)=t at *
   have w8:IntKind.i64.wrap (64-(t:Int))=((64-t:Nat):Int):=(wrap64 (by omega) (by omega)).trans (by omega)
   have w9:=shl_nat (h:=h') (b:=f) (l:=.i64) (by omega)
   have w10:binV h' .shr (.int .u64 18446744073709551615) (.int .i64 ((64-t:Nat):Int))=some (.int .u64 ((18446744073709551615 >>> (64-t):Nat):Int),h'):=shr_nat (h:=h') (a:=18446744073709551615) (b:=64-t) (l:=.i64) (by omega)
   have w11:=and_nat (h:=h') (a:=shN f) (b:=18446744073709551615 >>> (64-t)) (shN_lt f) (by rw [Nat.shiftRight_eq_div_pow];exact Nat.lt_of_le_of_lt (Nat.div_le_self _ _) (by decide))
   have hmask:maskN f t=shN f &&& (18446744073709551615 >>> (64-t)):=rfl
   simp -implicitDefEqProofs (disch:=first|exact dz _|fail) only [↓AM.R0,AM.R1,AM.R2,reduceAdd,reduceLeDiff,reduceEqDiff,reduceToNat,Nat.reduceLT,↓reduceIte,reduceEq,Int.reduceLT,reduceLE,e0,e1,e2,e3,e8,w2,w3,w4,w5,w6,w7,w8,w9,w10,w11,←hmask]
   have hi:i<ws'.length:=by have:=K.wl;omega
   obtain ⟨w,hw⟩:∃ w,ws'[i]?=some w:=⟨_,List.getElem?_eq_getElem hi⟩
   have hwb:=K.R.ub w (List.mem_of_getElem? hw)
   have uv:=uvals_at hw
   have g1:=K.R.obj
   have g2:=K.R.used
   have x1:=ix1 g2 (len:=ws'.length) hi
   obtain ⟨b1,b2,b3,b4,b5,b6⟩:=K.R.basic
   have ul:i<(uvals ws').length:=by unfold uvals;rw [List.length_map];exact hi
   have ul2:i+1≤(uvals ws').length:=ul
   have uset:∀ w:Nat,(uvals ws').take i++[.int .u64 (w:Int)]++(uvals ws').drop (i+1)=uvals (ws'.set i w):=fun w=>by
    have:uvals (ws'.set i w)=(uvals ws').set i (.int .u64 (w:Int)):=by unfold uvals;rw [List.map_set]
    rw [this,List.set_eq_take_append_cons_drop,if_pos ul,List.append_assoc];rfl
   have ht64:t≤64:=by omega
   have hft:f<t:=by omega
   have w12:IntKind.i64.wrap ((t:Int)-(f:Int))=((t-f:Nat):Int):=(wrap64 (by omega) (by omega)).trans (by omega)
   have w13:IntKind.i64.wrap ((a:Int)+((t-f:Nat):Int))=((a+(t-f):Nat):Int):=(wrap64 (by omega) (by omega)).trans (by omega)
   have hout:∀ w':Nat,(∀ j,j<64→fr w' j=if f≤j∧j<t then !u else fr w j)→∀ q,n≤q→q / 64=i→fr w' (q%64)=false:=fun w' h1 q hq hqi=>by
    rw [h1 _ (by omega),if_neg (by omega)]
    have:=K.out q hq
    rw [←fw_at hw (t:=q%64) (by omega),show 64*i+q%64=q by omega]
    exact this
   have hnew:∀ w':Nat,(∀ j,j<64→fr w' j=if f≤j∧j<t then !u else fr w j)→∀ q,fw (ws'.set i w') q=if b≤q∧q<a+(t-f) then !u else fw ws q:=fun w' h1 q=>by
    rw [fw_set hi]
    by_cases e:q / 64=i
    ·rw [if_pos e,h1 _ (by omega),←fw_at hw (t:=q%64) (by omega),show 64*i+q%64=q by omega,hf q]
     by_cases q1:f≤q%64∧q%64<t
     ·rw [if_pos q1,if_pos (by omega)]
     ·rw [if_neg q1]
      by_cases q2:b≤q∧q<a
      ·rw [if_pos q2,if_pos (by omega)]
      ·rw [if_neg q2,if_neg (by omega)]
    ·rw [if_neg e,hf q]
     by_cases q2:b≤q∧q<a
     ·rw [if_pos q2,if_pos (by omega)]
     ·rw [if_neg q2,if_neg (by omega)]
   have hml:=mask_lt f t
   refine AM.cI_bool (fun hu=>?_) (fun hu=>?_)
   ·subst hu
    have hfr:∀ j,j<64→fr (w ||| maskN f t) j=if f≤j∧j<t then !true else fr w j:=fun j hj=>fr_or ht64 hj
    have ho:=hout _ hfr
    have wo:=or_nat (h:=h') hwb hml
    have hwl:=or_lt hwb hml
    simp -implicitDefEqProofs (disch:=first|exact dz _|fail) only [↓AM.R0,AM.R1,AM.R2,reduceAdd,reduceLeDiff,reduceEqDiff,reduceToNat,Nat.reduceLT,↓reduceIte,reduceEq,Int.reduceLT,reduceLE,e0,e1,e2,e3,e8,g1,g2,x1,uv,wo,uset,ul2]
    refine AM.callI_of (K.step T' hi (hwl) ho) ?_
    rintro r h5 ⟨lv5,f5,K5,rfl⟩
    simp -implicitDefEqProofs (disch:=first|exact dz _|fail) only [↓AM.R0,AM.R1,AM.R2,reduceAdd,reduceLeDiff,reduceEqDiff,reduceToNat,Nat.reduceLT,↓reduceIte,reduceEq,Int.reduceLT,reduceLE,e0,e1,e2,e3,e8,w12,w13]
    exact ⟨b+m-(a+(t-f)),by omega,a+(t-f),_,lv5,by omega,by omega,rfl,fr1.trans f5,K5,hnew _ hfr⟩
   ·subst hu
    have hfr:∀ j,j<64→fr (w &&& (18446744073709551616-1-maskN f t)) j=if f≤j∧j<t then !false else fr w j:=fun j hj=>fr_an ht64 hj
    have ho:=hout _ hfr
    have wo:=an_int (h:=h') hwb hml
    have hwl:w &&& (18446744073709551616-1-maskN f t)<18446744073709551616:=Nat.lt_of_le_of_lt Nat.and_le_left hwb
    simp -implicitDefEqProofs (disch:=first|exact dz _|fail) only [↓AM.R0,AM.R1,AM.R2,reduceAdd,reduceLeDiff,reduceEqDiff,reduceToNat,Nat.reduceLT,↓reduceIte,reduceEq,Int.reduceLT,reduceLE,e0,e1,e2,e3,e8,g1,g2,x1,uv,wo,uset,ul2]
    refine AM.callI_of (K.step T' hi (hwl) ho) ?_
    rintro r h5 ⟨lv5,f5,K5,rfl⟩
    simp -implicitDefEqProofs (disch:=first|exact dz _|fail) only [↓AM.R0,AM.R1,AM.R2,reduceAdd,reduceLeDiff,reduceEqDiff,reduceToNat,Nat.reduceLT,↓reduceIte,reduceEq,Int.reduceLT,reduceLE,e0,e1,e2,e3,e8,w12,w13]
    exact ⟨b+m-(a+(t-f)),by omega,a+(t-f),_,lv5,by omega,by omega,rfl,fr1.trans f5,K5,hnew _ hfr⟩
  ·simp only [decide_eq_false_iff_not] at hc
   simp -implicitDefEqProofs (disch:=first|exact dz _|fail) only [↓AM.R0,AM.R1,AM.R2,reduceAdd,reduceLeDiff,reduceEqDiff,reduceToNat,Nat.reduceLT,↓reduceIte,reduceEq,Int.reduceLT,reduceLE]
   subst hQ
   exact ⟨ws',lv',fr1,K,fun q=>(hf q).trans (by rw [show a=b+m by omega]),rfl⟩
end Go.Proofs.YthillgheddpmhaaDoor.Pg
namespace Go.Proofs.YthillgheddpmhaaDoor.Pg
open Go Go.AM Go.Proofs.YthillgheddpmhaaDoor.AmGJ
open Nat (reduceAdd reduceLeDiff reduceEqDiff)
open Int (reduceToNat reduceEq reduceLE)
set_option maxHeartbeats 2000000 in
theorem withinW {h:AHeap} (T:TabR h) {w k:Nat} (hw:w<18446744073709551616) (k1:1≤k) (k2:k≤64) :
  CallP AP 83 [.int .u64 (w:Int),.int .i64 (k:Int)] h fun r h'=>h'=h∧r=.int .i64 (ctz 64 (X (18446744073709551616-1-w) (k-1)):Nat):=by
 refine callP (rfl:Tr.get AP 83=some A83) ?_
 generalize hQ:(fun (r:AVal) (h':AHeap)=>_)=Q
 have hv:18446744073709551616-1-w<2^64:=by simp only [Nat.reducePow];omega
 have w1:IntKind.i64.wrap ((k:Int)-1)=((k-1:Nat):Int):=(wrap64 (by omega) (by omega)).trans (by omega)
 simp -implicitDefEqProofs (disch:=first|exact dz _|fail) only [↓AM.R0,AM.R1,AM.R2,reduceAdd,reduceLeDiff,reduceEqDiff,reduceToNat,Nat.reduceLT,↓reduceIte,reduceEq,Int.reduceLT,reduceLE,a_compl,cm_int hw,w1]
 refine AM.loopI_of (fun n e h'=>∃ c:Nat,n+c=k-1∧h'=h∧e.val 9=.int .i64 ((k-1:Nat):Int)∧e.val 10=.int .i64 (c:Int)∧e.val 5=.int .u64 (X (18446744073709551616-1-w) c:Nat)) (k-1) ?_ ?_
 ·refine ⟨0,by omega,rfl,?_,?_,?_⟩<;>simp -implicitDefEqProofs (disch:=first|exact dz _|fail) only [↓AM.R0,AM.R1,AM.R2,reduceAdd,reduceLeDiff,reduceEqDiff,reduceToNat,Nat.reduceLT,↓reduceIte,reduceEq,Int.reduceLT,reduceLE]<;>rfl
 ·rintro n e h' ⟨c,hk,hh,e9,e10,e5⟩
  rw [hh]
  have xl:=X_lt hv c
  simp only [Nat.reducePow] at xl
  simp -implicitDefEqProofs (disch:=first|exact dz _|fail) only [↓AM.R0,AM.R1,AM.R2,reduceAdd,reduceLeDiff,reduceEqDiff,reduceToNat,Nat.reduceLT,↓reduceIte,reduceEq,Int.reduceLT,reduceLE,e9,e10]
  refine AM.cI_bool (fun hb=>?_) (fun hb=>?_)
  ·simp only [decide_eq_true_eq] at hb
   have hw1:IntKind.i64.wrap ((c:Int)+1)=((c+1:Nat):Int):=(wrap64 (by omega) (by omega)).trans (by omega)
   have s1:∀ h:AHeap,binV h .shr (.int .u64 ((X (18446744073709551616-1-w) c:Nat):Int)) (.int .u64 1)=some (.int .u64 ((X (18446744073709551616-1-w) c >>> 1:Nat):Int),h):=fun h=>shr_nat (b:=1) (by decide)
   have hs:X (18446744073709551616-1-w) c >>> 1<18446744073709551616:=by rw [Nat.shiftRight_eq_div_pow];omega
   have k1:=kU xl
   have k2:=kU hs
   simp -implicitDefEqProofs (disch:=first|exact dz _|fail) only [↓AM.R0,AM.R1,AM.R2,reduceAdd,reduceLeDiff,reduceEqDiff,reduceToNat,Nat.reduceLT,↓reduceIte,reduceEq,Int.reduceLT,reduceLE,e9,e10,e5,hw1]
   exact ⟨k-1-(c+1),by omega,c+1,by omega,rfl,rfl⟩
  ·simp only [decide_eq_false_iff_not] at hb
   obtain rfl:c=k-1:=by omega
   simp -implicitDefEqProofs (disch:=first|exact dz _|fail) only [↓AM.R0,AM.R1,AM.R2,reduceAdd,reduceLeDiff,reduceEqDiff,reduceToNat,Nat.reduceLT,↓reduceIte,reduceEq,Int.reduceLT,reduceLE,e5]
   refine AM.callI_of (tz T xl) ?_
   rintro r h2 ⟨rfl,rfl⟩
   simp -implicitDefEqProofs (disch:=first|exact dz _|fail) only [↓AM.R0,AM.R1,AM.R2,reduceAdd,reduceLeDiff,reduceEqDiff,reduceToNat,Nat.reduceLT,↓reduceIte,reduceEq,Int.reduceLT,reduceLE]
   subst hQ
   exact ⟨rfl,rfl⟩
def FirstAt (f:Nat→Bool) (k p:Nat):Prop:=Row f p k∧∀ q,q<p→¬ Row f q k
theorem first_word {w k:Nat} (hw:w<18446744073709551616) (k1:1≤k) {s:Sm} (H:IsSum (fr w) 0 64 s) (hk:k≤s.m):FirstAt (fr w) k (ctz 64 (X (18446744073709551616-1-w) (k-1)))∧ctz 64 (X (18446744073709551616-1-w) (k-1))+k≤64:=by
 obtain ⟨p,m1,m2,m3⟩:=H.m1
 have hb:(X (18446744073709551616-1-w) (k-1)).testBit p=true:=(X_row hw _ _).2 (by rw [show k-1+1=k by omega];exact m3.sub (Nat.le_refl _) (by omega))
 have hlt:ctz 64 (X (18446744073709551616-1-w) (k-1))≤p:=by
  rcases Nat.lt_or_ge p (ctz 64 (X (18446744073709551616-1-w) (k-1))) with q | q
  ·rw [ctz_low _ _ _ q] at hb;cases hb
  ·exact q
 refine ⟨⟨?_,fun q hq r=>?_⟩,by omega⟩
 ·have:=(X_row hw _ _).1 (ctz_at 64 _ (by omega:ctz 64 (X (18446744073709551616-1-w) (k-1))<64))
  rwa [show k-1+1=k by omega] at this
 ·have:=(X_row hw (k-1) q).2 (by rw [show k-1+1=k by omega];exact r)
  rw [ctz_low _ _ _ hq] at this;cases this
structure Seek (f:Nat→Bool) (k b r:Nat):Prop where
 le:r≤b
 row:Row f (b-r) r
 mx:r<b→f (b-r-1)=false
 no:∀ q,q+k≤b→¬ Row f q k
theorem Seek.low {f:Nat→Bool} {k b r q:Nat} (S:Seek f k b r) (h:Row f q k) (h1:q<b):b<q+k∧b-r≤q:=by
 rcases Nat.lt_or_ge b (q+k) with h2 | h2
 ·refine ⟨h2,?_⟩
  rcases Nat.lt_or_ge q (b-r) with h3 | h3
  ·have e1:=S.mx (by omega)
   have e2:=h (b-r-1-q) (by omega)
   rw [show q+(b-r-1-q)=b-r-1 by omega,e1] at e2
   cases e2
  ·exact h3
 ·exact absurd h (S.no q h2)
theorem Seek.here {f:Nat→Bool} {k b r:Nat} {s:Sm} (S:Seek f k b r) (H:IsSum f b (b+64) s) (h:k≤r+s.s):FirstAt f k (b-r):=by
 have:=S.le
 refine ⟨(S.row.join H.s1 (by omega)).sub (Nat.le_refl _) (by omega),fun q hq h1=>?_⟩
 have:=S.low h1 (by omega)
 omega
theorem Seek.clash {f:Nat→Bool} {k b r q:Nat} {s:Sm} (S:Seek f k b r) (H:IsSum f b (b+64) s) (h:r+s.s<k) (h1:Row f q k) (h2:q<b) (h3:q+k≤b+64):False:=by
 obtain ⟨c1,c2⟩:=S.low h1 h2
 have:=H.start_le (k:=q+k-b) (by omega) (h1.sub (by omega) (by omega))
 omega
theorem Seek.inside {f:Nat→Bool} {k b r p:Nat} {s:Sm} (S:Seek f k b r) (H:IsSum f b (b+64) s) (h:r+s.s<k) (h1:Row f (b+p) k) (h2:p+k≤64) (h3:∀ q,q<p→¬ Row f (b+q) k):FirstAt f k (b+p):=by
 refine ⟨h1,fun q hq hr=>?_⟩
 rcases Nat.lt_or_ge q b with c | c
 ·exact S.clash H h hr c (by omega)
 ·exact h3 (q-b) (by omega) (by rwa [show b+(q-b)=q by omega])
theorem Seek.next {f:Nat→Bool} {k b r:Nat} {s:Sm} (S:Seek f k b r) (H:IsSum f b (b+64) s) (h:r+s.s<k) (h2:s.m<k):Seek f k (b+64) (if s.s=64 then r+64 else s.e):=by
 have hl:=S.le
 have no:∀ q,q+k≤b+64→¬ Row f q k:=fun q hq hr=>by
  rcases Nat.lt_or_ge q b with c | c
  ·exact S.clash H h hr c hq
  ·have:=H.m2 q k c hq hr;omega
 have he:=H.e2
 have hs:=H.s2
 split
 ·rename_i e
  refine ⟨by omega,?_,fun c=>?_,no⟩
  ·rw [show b+64-(r+64)=b-r by omega]
   have:=H.s1
   rw [e] at this
   exact S.row.join this (by omega)
  ·rw [show b+64-(r+64)-1=b-r-1 by omega]
   exact S.mx (by omega)
 ·rename_i e
  refine ⟨by omega,H.e1,fun c=>?_,no⟩
  refine H.e3 ?_
  rcases Nat.lt_or_ge s.e 64 with q | q
  ·omega
  ·exfalso
   have e2:s.e=64:=by omega
   have r1:=H.e1
   rw [e2] at r1
   have:=r1 s.s (by omega)
   rw [show b+64-64+s.s=b+s.s by omega,H.s3 (by omega)] at this
   cases this
theorem PgV.none {h:AHeap} {p:PI} {n:Nat} {ws:List Nat} {lv:List (List Sm)} (K:PgV h p n ws lv) {k:Nat} (k1:1≤k) (no:∀ q,q+k≤64*ws.length→¬ Row (fw ws) q k):∀ q,¬ Row (fw ws) q k:=fun q r=>by
 have h1:=r (k-1) (by omega)
 rcases Nat.lt_or_ge (q+(k-1)) n with c | c
 ·have:=K.wl
  exact no q (by omega) r
 ·rw [K.out _ c] at h1;cases h1
set_option maxHeartbeats 8000000 in
theorem firstW {h:AHeap} (T:TabR h) {p:PI} {n:Nat} {ws:List Nat} {lv:List (List Sm)} (K:PgV h p n ws lv) {k:Nat} (k1:1≤k) :
  CallP AP 59 [.ptr p.id 0 0,.int .i64 (k:Int)] h fun r h'=>HFrame h h' [] []∧((r=.int .i64 (-1)∧∀ q,¬ Row (fw ws) q k)∨∃ q:Nat,r=.int .i64 (q:Int)∧FirstAt (fw ws) k q):=by
 refine callP (rfl:Tr.get AP 59=some A59) ?_
 generalize hQ:(fun (r:AVal) (h':AHeap)=>_)=Q
 have hlen:=K.wl
 have hn1:=K.n1
 have hn2:=K.n2
 have hne:=K.ne
 have hle:=K.le
 have hms:ws.length≤64:=by omega
 obtain ⟨lt,hlt⟩:∃ l,lv[lv.length-1]?=some l:=⟨_,List.getElem?_eq_getElem (by omega)⟩
 obtain ⟨it,hit⟩:∃ l,p.ids[lv.length-1]?=some l:=⟨_,List.getElem?_eq_getElem (by have:=K.R.len;omega)⟩
 have ltl:lt.length=1:=(K.S _ _ hlt).trans K.top
 obtain ⟨x,rfl⟩:∃ x,lt=[x]:=List.length_eq_one_iff.1 ltl
 have VT:=K.V _ _ 0 x hlt rfl
 have hbd:=VT.bd
 have gt:=K.R.lvl _ _ _ hlt hit
 have st:=svals_at hlt hit
 have g1:=K.R.obj
 have g2:=K.R.used
 have g3:=K.R.sums
 obtain ⟨b1,b2,b3,b4,b5,b6⟩:=K.R.basic
 obtain ⟨c1,c2,c3,c4,c5⟩:=K.R.mem hit
 have w1:IntKind.i64.wrap ((lv.length:Int)-1)=((lv.length-1:Nat):Int):=(wrap64 (by omega) (by omega)).trans (by omega)
 have x1:=ix1 g3 (len:=lv.length) (i:=lv.length-1) (by omega)
 have x4:ixV h 4 (.sl it 0 0 1 4) (.int .i64 0)=some (.ptr it 0 0,h):=ix4 gt (len:=1) (i:=0) (by omega)
 simp only [List.flatMap_cons,List.flatMap_nil,List.append_nil,encS] at gt
 simp only [List.length_cons,List.length_nil,Nat.zero_add] at st
 simp -implicitDefEqProofs (disch:=first|exact dz _|fail) only [↓AM.R0,AM.R1,AM.R2,reduceAdd,reduceLeDiff,reduceEqDiff,reduceToNat,Nat.reduceLT,↓reduceIte,reduceEq,Int.reduceLT,reduceLE,g1,g2,g3,gt,st,w1,x1,x4]
 refine AM.cI_bool (fun hc=>?_) (fun hc=>?_)
 ·simp only [decide_eq_true_eq] at hc
  simp -implicitDefEqProofs (disch:=first|exact dz _|fail) only [↓AM.R0,AM.R1,AM.R2,reduceAdd,reduceLeDiff,reduceEqDiff,reduceToNat,Nat.reduceLT,↓reduceIte,reduceEq,Int.reduceLT,reduceLE]
  subst hQ
  refine ⟨HFrame.refl (by simp),.inl ⟨rfl,K.none k1 fun q hq r=>?_⟩⟩
  have hge:=cl_ge ws.length (lv.length-1)
  rw [K.top,Nat.mul_one] at hge
  have:=VT.m2 q k (by omega) (by omega) r
  omega
 ·simp -implicitDefEqProofs (disch:=first|exact dz _|fail) only [↓AM.R0,AM.R1,AM.R2,reduceAdd,reduceLeDiff,reduceEqDiff,reduceToNat,Nat.reduceLT,↓reduceIte,reduceEq,Int.reduceLT,reduceLE,g1]
  obtain ⟨l0,hl0⟩:∃ l,lv[0]?=some l:=⟨_,List.getElem?_eq_getElem hne⟩
  obtain ⟨i0,hi0⟩:∃ l,p.ids[0]?=some l:=⟨_,List.getElem?_eq_getElem (by have:=K.R.len;omega)⟩
  obtain ⟨d1,d2,d3,d4,d5⟩:=K.R.mem hi0
  have s0:=svals_at hl0 hi0
  have g4:=K.R.lvl _ _ _ hl0 hi0
  have ll:l0.length=ws.length:=K.S 0 l0 hl0
  have VV:=fun j x=>K.V 0 l0 j x hl0
  have ub:=K.R.ub
  have kn:=@PgV.none h p n ws lv K k k1
  clear gt st x1 x4 hlt hit VT hbd
  refine AM.loopI_of (fun m e h'=>∃ (i r:Nat),m+i=ws.length∧e.val 0=.ptr p.id 0 0∧e.val 1=.int .i64 (k:Int)∧e.val 6=.int .i64 (r:Int)∧e.val 31=.sl p.iu 0 0 ws.length 1∧e.val 32=.int .i64 (ws.length:Int)∧e.val 33=.int .i64 (i:Int) ∧
   HFrame h h' [] []∧Seek (fw ws) k (64*i) r) ws.length ?_ ?_
  ·refine ⟨0,0,by omega,?_,?_,?_,?_,?_,?_,HFrame.refl (by simp),⟨by omega,fun t ht=>by omega,fun c=>by omega,fun q hq=>by omega⟩⟩<;>simp -implicitDefEqProofs (disch:=first|exact dz _|fail) only [↓AM.R0,AM.R1,AM.R2,reduceAdd,reduceLeDiff,reduceEqDiff,reduceToNat,Nat.reduceLT,↓reduceIte,reduceEq,Int.reduceLT,reduceLE]<;>rfl
  ·rintro m e h' ⟨i,r,hm,e0,e1,e6,e31,e32,e33,fr1,SK⟩
   have T':=T.frame fr1 (by simp)
   have g1':=(fr1.get _ b1 (by simp)).trans g1
   have g2':=(fr1.get _ b2 (by simp)).trans g2
   have g3':=(fr1.get _ b3 (by simp)).trans g3
   have g4':=(fr1.get _ d1 (by simp)).trans g4
   have hn:=fr1.n
   have kle:=SK.le
   simp -implicitDefEqProofs (disch:=first|exact dz _|fail) only [↓AM.R0,AM.R1,AM.R2,reduceAdd,reduceLeDiff,reduceEqDiff,reduceToNat,Nat.reduceLT,↓reduceIte,reduceEq,Int.reduceLT,reduceLE,e32,e33]
   refine AM.cI_bool (fun hb=>?_) (fun hb=>?_)
   ·simp only [decide_eq_true_eq] at hb
    have hi:i<ws.length:=by omega
    obtain ⟨w,hw⟩:∃ w,ws[i]?=some w:=⟨_,List.getElem?_eq_getElem hi⟩
    have hwb:=ub w (List.mem_of_getElem? hw)
    have uv:=uvals_at hw
    obtain ⟨s,hs⟩:∃ s,l0[i]?=some s:=⟨_,List.getElem?_eq_getElem (by omega)⟩
    have hv:=VV _ _ hs
    have HS:IsSum (fw ws) (64*i) (64*i+64) s:=by
     have:=hv
     unfold Val at this
     rw [show min (64*8^0*i) (64*ws.length)=64*i by rw [Nat.pow_zero];omega,show min (64*8^0*(i+1)) (64*ws.length)=64*i+64 by rw [Nat.pow_zero];omega] at this
     exact this
    obtain ⟨z1,z2,z3,z4⟩:=HS.bd
    have x1:=ix1 g2' (len:=ws.length) hi
    have x0:ixV h' 1 (.sl p.is p.gs 0 lv.length 1) (.int .i64 0)=some (.ptr p.is p.gs 0,h'):=ix1 g3' (len:=lv.length) (i:=0) hne
    have x4:=ix4 g4' (len:=l0.length) (i:=i) (by omega)
    have hfa:=flat_at l0 i s hs
    have hfa2:i*4+4≤(l0.flatMap encS).length:=by rw [flat_len];omega
    have wr:IntKind.i64.wrap ((r:Int)+(s.s:Int))=((r+s.s:Nat):Int):=(wrap64 (by omega) (by omega)).trans (by omega)
    have gP:((h'.push (.cells 0 false [.int .i64 0,.int .i64 0,.int .i64 0,.int .i64 0])).set h'.n (.cells 0 false (encS s))).get h'.n=.cells 0 false (encS s):=AHeap.get_set_same _ _ _
    have fP:=((fr1.pushTmp (.cells 0 false [.int .i64 0,.int .i64 0,.int .i64 0,.int .i64 0])).setTmp (i:=h'.n) hn (.cells 0 false (encS s)))
    simp only [encS] at gP fP
    simp -implicitDefEqProofs (disch:=first|exact dz _|fail) only [↓AM.R0,AM.R1,AM.R2,reduceAdd,reduceLeDiff,reduceEqDiff,reduceToNat,Nat.reduceLT,↓reduceIte,reduceEq,Int.reduceLT,reduceLE,e0,e1,e6,e31,e33,x1,g2',uv,g1',g3',s0,x0,x4,g4',hfa,encS,wr]
    have wm:IntKind.i64.wrap ((i:Int)*64)=((64*i:Nat):Int):=(wrap64 (by omega) (by omega)).trans (by omega)
    refine AM.cI_bool (fun hc=>?_) (fun hc=>?_)
    ·simp only [decide_eq_true_eq] at hc
     have ws1:IntKind.i64.wrap (((64*i:Nat):Int)-(r:Int))=((64*i-r:Nat):Int):=(wrap64 (by omega) (by omega)).trans (by omega)
     simp -implicitDefEqProofs (disch:=first|exact dz _|fail) only [↓AM.R0,AM.R1,AM.R2,reduceAdd,reduceLeDiff,reduceEqDiff,reduceToNat,Nat.reduceLT,↓reduceIte,reduceEq,Int.reduceLT,reduceLE,wm,e6,ws1]
     subst hQ
     exact ⟨fP,.inr ⟨64*i-r,rfl,SK.here HS (by omega)⟩⟩
    ·simp only [decide_eq_false_iff_not] at hc
     simp -implicitDefEqProofs (disch:=first|exact dz _|fail) only [↓AM.R0,AM.R1,AM.R2,reduceAdd,reduceLeDiff,reduceEqDiff,reduceToNat,Nat.reduceLT,↓reduceIte,reduceEq,Int.reduceLT,reduceLE,e1]
     refine AM.cI_bool (fun hd=>?_) (fun hd=>?_)
     ·simp only [decide_eq_true_eq] at hd
      have HW:IsSum (fr w) 0 64 s:=by
       obtain ⟨y1,y2,y3,y4,y5,y6,y7,y8,⟨yp,y9,y10,y11⟩,y12⟩:=HS
       have ff:∀ p k,p+k≤64→(Row (fr w) p k↔Row (fw ws) (64*i+p) k):=fun p k h1=>by
        constructor
        ·intro r t ht;rw [Nat.add_assoc,fw_at hw (by omega)];exact r t ht
        ·intro r t ht;rw [←fw_at hw (by omega),←Nat.add_assoc];exact r t ht
       refine ⟨by omega,by omega,(ff 0 _ (by omega)).2 y3,by omega,fun q=>?_,?_,by omega,fun q=>?_,⟨yp-64*i,by omega,by omega,(ff _ _ (by omega)).2 (by rwa [show 64*i+(yp-64*i)=yp by omega])⟩,fun p k h1 h2 h3=>y12 _ k (by omega) (by omega) ((ff p k h2).1 h3)⟩
       ·rw [Nat.zero_add,←fw_at hw (by omega)];exact y5 (by omega)
       ·refine (ff _ _ (by omega)).2 ?_
        rwa [show 64*i+(64-s.e)=64*i+64-s.e by omega]
       ·rw [←fw_at hw (by omega),show 64*i+(64-s.e-1)=64*i+64-s.e-1 by omega];exact y8 (by omega)
      obtain ⟨⟨fa,fb⟩,fc⟩:=first_word hwb k1 HW (by omega)
      simp -implicitDefEqProofs (disch:=first|exact dz _|fail) only [↓AM.R0,AM.R1,AM.R2,reduceAdd,reduceLeDiff,reduceEqDiff,reduceToNat,Nat.reduceLT,↓reduceIte,reduceEq,Int.reduceLT,reduceLE,wm,e1]
      refine AM.callI_of (withinW (T'.frame (((HFrame.refl (h:=h') (F:=[]) (by simp)).pushTmp (.cells 0 false [.int .i64 0,.int .i64 0,.int .i64 0,.int .i64 0])).setTmp (i:=h'.n) (Nat.le_refl _) (.cells 0 false [.int .i64 (s.s:Int),.int .i64 (s.m:Int),.int .i64 (s.e:Int),.int .i64 (s.a:Int)])) (by simp)) hwb k1 (by omega)) ?_
      rintro r2 h5 ⟨rfl,rfl⟩
      generalize ctz 64 (X (18446744073709551616-1-w) (k-1))=c at *
      have wa:IntKind.i64.wrap (((64*i:Nat):Int)+(c:Int))=((64*i+c:Nat):Int):=(wrap64 (by omega) (by omega)).trans (by omega)
      simp -implicitDefEqProofs (disch:=first|exact dz _|fail) only [↓AM.R0,AM.R1,AM.R2,reduceAdd,reduceLeDiff,reduceEqDiff,reduceToNat,Nat.reduceLT,↓reduceIte,reduceEq,Int.reduceLT,reduceLE,wa]
      subst hQ
      refine ⟨fP,.inr ⟨64*i+c,rfl,SK.inside HS (by omega) ?_ fc fun q hq hr=>fb q hq fun t ht=>?_⟩⟩
      ·intro t ht;rw [Nat.add_assoc,fw_at hw (by omega)];exact fa t ht
      ·rw [←fw_at hw (by omega),←Nat.add_assoc];exact hr t ht
     ·simp only [decide_eq_false_iff_not] at hd
      simp -implicitDefEqProofs (disch:=first|exact dz _|fail) only [↓AM.R0,AM.R1,AM.R2,reduceAdd,reduceLeDiff,reduceEqDiff,reduceToNat,Nat.reduceLT,↓reduceIte,reduceEq,Int.reduceLT,reduceLE]
      have NX:=SK.next HS (by omega) (by omega)
      have wi:IntKind.i64.wrap ((i:Int)+1)=((i+1:Nat):Int):=(wrap64 (by omega) (by omega)).trans (by omega)
      have wq:IntKind.i64.wrap ((r:Int)+64)=((r+64:Nat):Int):=(wrap64 (by omega) (by omega)).trans (by omega)
      have d64:decide ((s.s:Int)=64)=decide (s.s=64):=decide_eq_decide.2 (by omega)
      simp only [d64]
      refine AM.cI_bool (fun hf=>?_) (fun hf=>?_)
      ·simp only [decide_eq_true_eq] at hf
       rw [if_pos hf] at NX
       simp -implicitDefEqProofs (disch:=first|exact dz _|fail) only [↓AM.R0,AM.R1,AM.R2,reduceAdd,reduceLeDiff,reduceEqDiff,reduceToNat,Nat.reduceLT,↓reduceIte,reduceEq,Int.reduceLT,reduceLE,e6,e33,wq,wi]
       exact ⟨m-1,by omega,i+1,r+64,by omega,e0,e1,rfl,e31,e32,rfl,fP,NX⟩
      ·simp only [decide_eq_false_iff_not] at hf
       rw [if_neg hf] at NX
       simp -implicitDefEqProofs (disch:=first|exact dz _|fail) only [↓AM.R0,AM.R1,AM.R2,reduceAdd,reduceLeDiff,reduceEqDiff,reduceToNat,Nat.reduceLT,↓reduceIte,reduceEq,Int.reduceLT,reduceLE,e6,e33,wi]
       exact ⟨m-1,by omega,i+1,s.e,by omega,e0,e1,rfl,e31,e32,rfl,fP,NX⟩
   ·simp only [decide_eq_false_iff_not] at hb
    simp -implicitDefEqProofs (disch:=first|exact dz _|fail) only [↓AM.R0,AM.R1,AM.R2,reduceAdd,reduceLeDiff,reduceEqDiff,reduceToNat,Nat.reduceLT,↓reduceIte,reduceEq,Int.reduceLT,reduceLE]
    subst hQ
    exact ⟨fr1,.inl ⟨rfl,kn fun q hq=>SK.no q (by omega)⟩⟩
end Go.Proofs.YthillgheddpmhaaDoor.Pg
namespace Go.Proofs.YthillgheddpmhaaDoor.Pg
open Go Go.AM Go.Proofs.YthillgheddpmhaaDoor.AmGJ
open Nat (reduceAdd reduceLeDiff reduceEqDiff)
open Int (reduceToNat reduceEq reduceLE)
def fi (ws:List Nat) (x:Int):Bool:=decide (0≤x)&&fw ws x.toNat
theorem and_one (a:Nat):(a &&& 1=1)↔a.testBit 0=true:=by
 rw [Nat.and_one_is_mod,Nat.testBit_zero,decide_eq_true_eq]
set_option maxHeartbeats 4000000 in
theorem usedW {h:AHeap} {p:PI} {n:Nat} {ws:List Nat} {lv:List (List Sm)} (K:PgV h p n ws lv) (x:Int) :
  CallP AP 19 [.ptr p.id 0 0,.int .i64 x] h fun r h'=>h'=h∧r=.bool (!fi ws x):=by
 refine callP (rfl:Tr.get AP 19=some A19) ?_
 generalize hQ:(fun (r:AVal) (h':AHeap)=>_)=Q
 have g1:=K.R.obj
 have g2:=K.R.used
 obtain ⟨b1,b2,b3,b4,b5,b6⟩:=K.R.basic
 have hn2:=K.n2
 rcases Int.lt_or_le x 0 with c | c
 ·have d1:decide (x<0)=true:=decide_eq_true c
  simp -implicitDefEqProofs (disch:=first|exact dz _|fail) only [↓AM.R0,AM.R1,AM.R2,reduceAdd,reduceLeDiff,reduceEqDiff,reduceToNat,Nat.reduceLT,↓reduceIte,reduceEq,Int.reduceLT,reduceLE,d1]
  subst hQ
  refine ⟨rfl,?_⟩
  have:decide (0≤x)=false:=decide_eq_false (by omega)
  rw [fi,this];rfl
 ·have d1:decide (x<0)=false:=decide_eq_false (by omega)
  obtain ⟨a,rfl⟩:∃ a:Nat,x=a:=⟨x.toNat,by omega⟩
  rcases Nat.lt_or_ge a n with e | e
  ·have d2:decide ((n:Int)≤(a:Int))=false:=decide_eq_false (by omega)
   have hi:a / 64<ws.length:=by have:=K.wl;omega
   obtain ⟨w,hw⟩:∃ w,ws[a / 64]?=some w:=⟨_,List.getElem?_eq_getElem hi⟩
   have hwb:=K.R.ub w (List.mem_of_getElem? hw)
   have uv:=uvals_at hw
   have x1:=ix1 g2 (len:=ws.length) hi
   have w2:IntKind.i64.wrap ((a:Int).tdiv 64)=((a / 64:Nat):Int):=wrap64 (n:=((a / 64:Nat):Int)) (by omega) (by omega)
   have w3:(a:Int).tmod 64=((a%64:Nat):Int):=rfl
   have s1:=shr_nat (h:=h) (a:=w) (b:=a%64) (l:=.i64) (by omega)
   have hs:w >>> (a%64)<18446744073709551616:=by rw [Nat.shiftRight_eq_div_pow];exact Nat.lt_of_le_of_lt (Nat.div_le_self _ _) hwb
   have s2:binV h .and (.int .u64 ((w >>> (a%64):Nat):Int)) (.int .u64 1)=some (.int .u64 ((w >>> (a%64) &&& 1:Nat):Int),h):=and_nat (h:=h) hs (b:=1) (by decide)
   have ha:fi ws (a:Int)=fr w (a%64):=by
    rw [fi,←fw_at hw (t:=a%64) (by omega),show 64*(a / 64)+a%64=a by omega]
    have:decide (0≤(a:Int))=true:=decide_eq_true (by omega)
    rw [this,Int.toNat_natCast];rfl
   have hb:decide (((w >>> (a%64) &&& 1:Nat):Int)=1)=!fi ws (a:Int):=by
    rw [ha,fr]
    have:decide (a%64<64)=true:=decide_eq_true (by omega)
    rw [this,Bool.true_and,Bool.not_not]
    have h2:=and_one (w >>> (a%64))
    rw [Nat.testBit_shiftRight,Nat.add_zero] at h2
    cases hb:w.testBit (a%64) with
    | true=>exact decide_eq_true (by have:=h2.2 hb;omega)
    | false=>exact decide_eq_false (fun q=>by have:=h2.1 (by omega);rw [hb] at this;cases this)
   generalize a / 64=i at *
   generalize a%64=j at *
   simp -implicitDefEqProofs (disch:=first|exact dz _|fail) only [↓AM.R0,AM.R1,AM.R2,reduceAdd,reduceLeDiff,reduceEqDiff,reduceToNat,Nat.reduceLT,↓reduceIte,reduceEq,Int.reduceLT,reduceLE,d1,d2,g1,g2,uv,x1,w2,w3,s1,s2,hb]
   subst hQ
   exact ⟨rfl,rfl⟩
  ·have d2:decide ((n:Int)≤(a:Int))=true:=decide_eq_true (by omega)
   simp -implicitDefEqProofs (disch:=first|exact dz _|fail) only [↓AM.R0,AM.R1,AM.R2,reduceAdd,reduceLeDiff,reduceEqDiff,reduceToNat,Nat.reduceLT,↓reduceIte,reduceEq,Int.reduceLT,reduceLE,d1,d2,g1]
   subst hQ
   refine ⟨rfl,?_⟩
   rw [fi,Int.toNat_natCast,K.out a e,Bool.and_false];rfl
def inB (n:Nat) (b m:Int):Bool:=decide (0≤b)&&(decide (1≤m)&&decide (b+m≤n))
theorem inB_true {n:Nat} {b m:Int}:inB n b m=true↔0≤b∧1≤m∧b+m≤n:=by
 simp only [inB,Bool.and_eq_true,decide_eq_true_eq]
set_option maxHeartbeats 4000000 in
theorem outsideW {h:AHeap} {p:PI} {n:Nat} {ws:List Nat} {lv:List (List Sm)} (K:PgV h p n ws lv) (b m:Int) :
  CallP AP 82 [.ptr p.id 0 0,.int .i64 b,.int .i64 m] h fun r h'=>h'=h∧r=.bool (!inB n b m):=by
 refine callP (rfl:Tr.get AP 82=some A82) ?_
 generalize hQ:(fun (r:AVal) (h':AHeap)=>_)=Q
 have g1:=K.R.obj
 obtain ⟨b1,b2,b3,b4,b5,b6⟩:=K.R.basic
 have hn2:=K.n2
 have fin:∀ c,inB n b m=c→(!inB n b m)=!c:=fun c hc=>by rw [hc]
 rcases Int.lt_or_le b 0 with c | c
 ·have d1:decide (b<0)=true:=decide_eq_true c
  simp -implicitDefEqProofs (disch:=first|exact dz _|fail) only [↓AM.R0,AM.R1,AM.R2,reduceAdd,reduceLeDiff,reduceEqDiff,reduceToNat,Nat.reduceLT,↓reduceIte,reduceEq,Int.reduceLT,reduceLE,d1]
  subst hQ
  exact ⟨rfl,by rw [fin false (by rw [←Bool.not_eq_true,inB_true];omega)];rfl⟩
 have d1:decide (b<0)=false:=decide_eq_false (by omega)
 rcases Int.lt_or_le m 1 with e | e
 ·have d2:decide (m<1)=true:=decide_eq_true e
  simp -implicitDefEqProofs (disch:=first|exact dz _|fail) only [↓AM.R0,AM.R1,AM.R2,reduceAdd,reduceLeDiff,reduceEqDiff,reduceToNat,Nat.reduceLT,↓reduceIte,reduceEq,Int.reduceLT,reduceLE,d1,d2]
  subst hQ
  exact ⟨rfl,by rw [fin false (by rw [←Bool.not_eq_true,inB_true];omega)];rfl⟩
 have d2:decide (m<1)=false:=decide_eq_false (by omega)
 rcases Int.lt_or_le b n with f | f
 ·have d3:decide ((n:Int)≤b)=false:=decide_eq_false (by omega)
  have w1:IntKind.i64.wrap ((n:Int)-b)=(n:Int)-b:=wrap64 (by omega) (by omega)
  have d4:decide ((n:Int)-b<m)=!inB n b m:=by
   cases q:inB n b m with
   | true=>exact decide_eq_false (by have:=inB_true.1 q;omega)
   | false=>exact decide_eq_true (by rw [←Bool.not_eq_true,inB_true] at q;omega)
  simp -implicitDefEqProofs (disch:=first|exact dz _|fail) only [↓AM.R0,AM.R1,AM.R2,reduceAdd,reduceLeDiff,reduceEqDiff,reduceToNat,Nat.reduceLT,↓reduceIte,reduceEq,Int.reduceLT,reduceLE,d1,d2,d3,d4,g1,w1]
  subst hQ
  exact ⟨rfl,rfl⟩
 ·have d3:decide ((n:Int)≤b)=true:=decide_eq_true f
  simp -implicitDefEqProofs (disch:=first|exact dz _|fail) only [↓AM.R0,AM.R1,AM.R2,reduceAdd,reduceLeDiff,reduceEqDiff,reduceToNat,Nat.reduceLT,↓reduceIte,reduceEq,Int.reduceLT,reduceLE,d1,d2,d3,g1]
  subst hQ
  exact ⟨rfl,by rw [fin false (by rw [←Bool.not_eq_true,inB_true];omega)];rfl⟩
def TurnR (n:Nat) (ws ws':List Nat) (b m:Int) (u:Bool) (r:AVal):Prop :=
 (inB n b m=true∧(∀ q:Nat,b≤q→(q:Int)<b+m→fw ws q=u)∧(∀ q:Nat,fw ws' q=if b≤q∧(q:Int)<b+m then !u else fw ws q)∧r=.int .i64 0) ∨
 (inB n b m=true∧(∃ q:Nat,b≤q∧(q:Int)<b+m∧fw ws q=!u)∧ws'=ws∧r=.int .i64 5)∨(inB n b m=false∧ws'=ws∧r=.int .i64 1)
set_option maxHeartbeats 8000000 in
theorem turnW {h:AHeap} (T:TabR h) {p:PI} {n:Nat} {ws:List Nat} {lv:List (List Sm)} (K:PgV h p n ws lv) (b m:Int) (u:Bool) :
  CallP AP 58 [.ptr p.id 0 0,.int .i64 b,.int .i64 m,.bool u] h fun r h'=>∃ ws' lv',HFrame h h' p.F p.F∧PgV h' p n ws' lv'∧TurnR n ws ws' b m u r:=by
 refine callP (rfl:Tr.get AP 58=some A58) ?_
 generalize hQ:(fun (r:AVal) (h':AHeap)=>_)=Q
 have hn2:=K.n2
 simp -implicitDefEqProofs (disch:=first|exact dz _|fail) only [↓AM.R0,AM.R1,AM.R2,reduceAdd,reduceLeDiff,reduceEqDiff,reduceToNat,Nat.reduceLT,↓reduceIte,reduceEq,Int.reduceLT,reduceLE]
 refine AM.callI_of (outsideW K b m) ?_
 rintro r h2 ⟨rfl,rfl⟩
 simp -implicitDefEqProofs (disch:=first|exact dz _|fail) only [↓AM.R0,AM.R1,AM.R2,reduceAdd,reduceLeDiff,reduceEqDiff,reduceToNat,Nat.reduceLT,↓reduceIte,reduceEq,Int.reduceLT,reduceLE]
 refine AM.cI_bool (fun hb=>?_) (fun hb=>?_)
 ·have hb':inB n b m=false:=by simpa using hb
  simp -implicitDefEqProofs (disch:=first|exact dz _|fail) only [↓AM.R0,AM.R1,AM.R2,reduceAdd,reduceLeDiff,reduceEqDiff,reduceToNat,Nat.reduceLT,↓reduceIte,reduceEq,Int.reduceLT,reduceLE]
  subst hQ
  exact ⟨ws,lv,HFrame.refl K.R.lt,K,.inr (.inr ⟨hb',rfl,rfl⟩)⟩
 ·have hb':inB n b m=true:=by simpa using hb
  obtain ⟨hb0,hm1,hbm⟩:=inB_true.1 hb'
  obtain ⟨b,rfl⟩:∃ a:Nat,b=a:=⟨b.toNat,by omega⟩
  obtain ⟨m,rfl⟩:∃ a:Nat,m=a:=⟨m.toNat,by omega⟩
  have w1:IntKind.i64.wrap ((b:Int)+(m:Int))=((b+m:Nat):Int):=(wrap64 (by omega) (by omega)).trans (by omega)
  simp -implicitDefEqProofs (disch:=first|exact dz _|fail) only [↓AM.R0,AM.R1,AM.R2,reduceAdd,reduceLeDiff,reduceEqDiff,reduceToNat,Nat.reduceLT,↓reduceIte,reduceEq,Int.reduceLT,reduceLE]
  refine AM.loopI_of (fun k e h'=>∃ (a:Nat),k+a=b+m∧b≤a∧h'=h2∧e.val 0=.ptr p.id 0 0∧e.val 1=.int .i64 (b:Int)∧e.val 2=.int .i64 (m:Int)∧e.val 3=.bool u∧e.val 9=.int .i64 (a:Int)∧(∀ q:Nat,b≤q→q<a→fw ws q=u)) m ?_ ?_
  ·refine ⟨b,by omega,by omega,rfl,?_,?_,?_,?_,?_,fun q h1 h2=>by omega⟩<;>simp -implicitDefEqProofs (disch:=first|exact dz _|fail) only [↓AM.R0,AM.R1,AM.R2,reduceAdd,reduceLeDiff,reduceEqDiff,reduceToNat,Nat.reduceLT,↓reduceIte,reduceEq,Int.reduceLT,reduceLE]
  ·rintro k e h' ⟨a,hk,hba,hh,e0,e1,e2,e3,e9,hf⟩
   rw [hh]
   simp -implicitDefEqProofs (disch:=first|exact dz _|fail) only [↓AM.R0,AM.R1,AM.R2,reduceAdd,reduceLeDiff,reduceEqDiff,reduceToNat,Nat.reduceLT,↓reduceIte,reduceEq,Int.reduceLT,reduceLE,e1,e2,e9,w1]
   refine AM.cI_bool (fun hc=>?_) (fun hc=>?_)
   ·simp only [decide_eq_true_eq] at hc
    simp -implicitDefEqProofs (disch:=first|exact dz _|fail) only [↓AM.R0,AM.R1,AM.R2,reduceAdd,reduceLeDiff,reduceEqDiff,reduceToNat,Nat.reduceLT,↓reduceIte,reduceEq,Int.reduceLT,reduceLE,e0,e9]
    refine AM.callI_of (usedW K (a:Int)) ?_
    rintro r h3 ⟨rfl,rfl⟩
    have hfi:fi ws (a:Int)=fw ws a:=by
     have:decide (0≤(a:Int))=true:=decide_eq_true (by omega)
     rw [fi,this,Int.toNat_natCast];rfl
    rw [hfi]
    simp -implicitDefEqProofs (disch:=first|exact dz _|fail) only [↓AM.R0,AM.R1,AM.R2,reduceAdd,reduceLeDiff,reduceEqDiff,reduceToNat,Nat.reduceLT,↓reduceIte,reduceEq,Int.reduceLT,reduceLE,e3]
    refine AM.cI_bool (fun hd=>?_) (fun hd=>?_)
    ·have hd':fw ws a=!u:=by cases hh:fw ws a<;>cases u<;>simp_all
     simp -implicitDefEqProofs (disch:=first|exact dz _|fail) only [↓AM.R0,AM.R1,AM.R2,reduceAdd,reduceLeDiff,reduceEqDiff,reduceToNat,Nat.reduceLT,↓reduceIte,reduceEq,Int.reduceLT,reduceLE]
     subst hQ
     exact ⟨ws,lv,HFrame.refl K.R.lt,K,.inr (.inl ⟨hb',⟨a,by omega,by omega,hd'⟩,rfl,rfl⟩)⟩
    ·have hd':fw ws a=u:=by cases hh:fw ws a<;>cases u<;>simp_all
     have w2:IntKind.i64.wrap ((a:Int)+1)=((a+1:Nat):Int):=(wrap64 (by omega) (by omega)).trans (by omega)
     simp -implicitDefEqProofs (disch:=first|exact dz _|fail) only [↓AM.R0,AM.R1,AM.R2,reduceAdd,reduceLeDiff,reduceEqDiff,reduceToNat,Nat.reduceLT,↓reduceIte,reduceEq,Int.reduceLT,reduceLE,e9,w2]
     refine ⟨k-1,by omega,a+1,by omega,by omega,e0,e1,e2,e3,rfl,fun q h1 h2=>?_⟩
     rcases Nat.lt_or_ge q a with c | c
     ·exact hf q h1 c
     ·obtain rfl:q=a:=by omega
      exact hd'
   ·simp only [decide_eq_false_iff_not] at hc
    simp -implicitDefEqProofs (disch:=first|exact dz _|fail) only [↓AM.R0,AM.R1,AM.R2,reduceAdd,reduceLeDiff,reduceEqDiff,reduceToNat,Nat.reduceLT,↓reduceIte,reduceEq,Int.reduceLT,reduceLE,e0,e1,e2,e3]
    refine AM.callI_of (setW T K (b:=b) (m:=m) (by omega) u) ?_
    rintro r h5 ⟨ws',lv',f5,K5,hn,rfl⟩
    simp -implicitDefEqProofs (disch:=first|exact dz _|fail) only [↓AM.R0,AM.R1,AM.R2,reduceAdd,reduceLeDiff,reduceEqDiff,reduceToNat,Nat.reduceLT,↓reduceIte,reduceEq,Int.reduceLT,reduceLE]
    subst hQ
    refine ⟨ws',lv',f5,K5,.inl ⟨hb',fun q h1 h2=>hf q (by omega) (by omega),fun q=>?_,rfl⟩⟩
    rw [hn q]
    by_cases c:b≤q∧q<b+m
    ·rw [if_pos c,if_pos (by omega)]
    ·rw [if_neg c,if_neg (by omega)]
theorem freeW {h:AHeap} (T:TabR h) {p:PI} {n:Nat} {ws:List Nat} {lv:List (List Sm)} (K:PgV h p n ws lv) (b m:Int) :
  CallP AP 18 [.ptr p.id 0 0,.int .i64 b,.int .i64 m] h fun r h'=>∃ ws' lv',HFrame h h' p.F p.F∧PgV h' p n ws' lv'∧TurnR n ws ws' b m false r:=by
 refine callP (rfl:Tr.get AP 18=some A18) ?_
 generalize hQ:(fun (r:AVal) (h':AHeap)=>_)=Q
 simp -implicitDefEqProofs (disch:=first|exact dz _|fail) only [↓AM.R0,AM.R1,AM.R2,reduceAdd,reduceLeDiff,reduceEqDiff,reduceToNat,Nat.reduceLT,↓reduceIte,reduceEq,Int.reduceLT,reduceLE]
 refine AM.callI_of (turnW T K b m false) ?_
 intro r h' hr
 simp -implicitDefEqProofs (disch:=first|exact dz _|fail) only [↓AM.R0,AM.R1,AM.R2,reduceAdd,reduceLeDiff,reduceEqDiff,reduceToNat,Nat.reduceLT,↓reduceIte,reduceEq,Int.reduceLT,reduceLE]
 subst hQ
 exact hr
def AllocR (ws ws':List Nat) (k:Int) (r:AVal):Prop :=
 (k<1∧ws'=ws∧r=.tup [.int .i64 0,.int .i64 1])∨(1≤k∧(∀ q,¬ Row (fw ws) q k.toNat)∧ws'=ws∧r=.tup [.int .i64 0,.int .i64 3]) ∨
 (1≤k∧∃ a:Nat,FirstAt (fw ws) k.toNat a∧(∀ q:Nat,fw ws' q=if a≤q∧q<a+k.toNat then false else fw ws q)∧r=.tup [.int .i64 (a:Int),.int .i64 0])
set_option maxHeartbeats 4000000 in
theorem allocW {h:AHeap} (T:TabR h) {p:PI} {n:Nat} {ws:List Nat} {lv:List (List Sm)} (K:PgV h p n ws lv) (k:Int) :
  CallP AP 20 [.ptr p.id 0 0,.int .i64 k] h fun r h'=>∃ ws' lv',HFrame h h' p.F p.F∧PgV h' p n ws' lv'∧AllocR ws ws' k r:=by
 refine callP (rfl:Tr.get AP 20=some A20) ?_
 generalize hQ:(fun (r:AVal) (h':AHeap)=>_)=Q
 simp -implicitDefEqProofs (disch:=first|exact dz _|fail) only [↓AM.R0,AM.R1,AM.R2,reduceAdd,reduceLeDiff,reduceEqDiff,reduceToNat,Nat.reduceLT,↓reduceIte,reduceEq,Int.reduceLT,reduceLE]
 refine AM.cI_bool (fun hb=>?_) (fun hb=>?_)
 ·simp only [decide_eq_true_eq] at hb
  simp -implicitDefEqProofs (disch:=first|exact dz _|fail) only [↓AM.R0,AM.R1,AM.R2,reduceAdd,reduceLeDiff,reduceEqDiff,reduceToNat,Nat.reduceLT,↓reduceIte,reduceEq,Int.reduceLT,reduceLE]
  subst hQ
  exact ⟨ws,lv,HFrame.refl K.R.lt,K,.inl ⟨hb,rfl,rfl⟩⟩
 ·simp only [decide_eq_false_iff_not] at hb
  obtain ⟨m,rfl⟩:∃ a:Nat,k=a:=⟨k.toNat,by omega⟩
  simp -implicitDefEqProofs (disch:=first|exact dz _|fail) only [↓AM.R0,AM.R1,AM.R2,reduceAdd,reduceLeDiff,reduceEqDiff,reduceToNat,Nat.reduceLT,↓reduceIte,reduceEq,Int.reduceLT,reduceLE]
  refine AM.callI_of (firstW T K (k:=m) (by omega)) ?_
  rintro r h2 ⟨f2,⟨rfl,hno⟩ | ⟨a,rfl,hfa⟩⟩
  ·simp -implicitDefEqProofs (disch:=first|exact dz _|fail) only [↓AM.R0,AM.R1,AM.R2,reduceAdd,reduceLeDiff,reduceEqDiff,reduceToNat,Nat.reduceLT,↓reduceIte,reduceEq,Int.reduceLT,reduceLE]
   subst hQ
   have R2:=K.R.frame f2.n (fun j hj=>f2.get j (K.R.lt j hj) (by simp))
   exact ⟨ws,lv,f2.wide (by simp) (by simp) K.R.lt,⟨R2,K.S,K.ne,K.le,K.top,K.V,K.n1,K.n2,K.wl,K.out⟩,.inr (.inl ⟨by omega,by rw [Int.toNat_natCast];exact hno,rfl,rfl⟩)⟩
  ·have ha:decide ((a:Int)<0)=false:=decide_eq_false (by omega)
   have R2:=K.R.frame f2.n (fun j hj=>f2.get j (K.R.lt j hj) (by simp))
   have K2:PgV h2 p n ws lv:=⟨R2,K.S,K.ne,K.le,K.top,K.V,K.n1,K.n2,K.wl,K.out⟩
   have hlt:a+m≤n:=by
    rcases Nat.lt_or_ge n (a+m) with q | q
    ·have h1:=hfa.1 (m-1) (by omega)
     rw [K.out _ (by omega)] at h1;cases h1
    ·exact q
   simp -implicitDefEqProofs (disch:=first|exact dz _|fail) only [↓AM.R0,AM.R1,AM.R2,reduceAdd,reduceLeDiff,reduceEqDiff,reduceToNat,Nat.reduceLT,↓reduceIte,reduceEq,Int.reduceLT,reduceLE,ha]
   refine AM.callI_of (setW (T.frame f2 (by simp)) K2 (b:=a) (m:=m) hlt true) ?_
   rintro r h5 ⟨ws',lv',f5,K5,hn,rfl⟩
   simp -implicitDefEqProofs (disch:=first|exact dz _|fail) only [↓AM.R0,AM.R1,AM.R2,reduceAdd,reduceLeDiff,reduceEqDiff,reduceToNat,Nat.reduceLT,↓reduceIte,reduceEq,Int.reduceLT,reduceLE]
   subst hQ
   exact ⟨ws',lv',(f2.wide (by simp) (by simp) K.R.lt).trans f5,K5,.inr (.inr ⟨by omega,a,by rw [Int.toNat_natCast];exact hfa,by rw [Int.toNat_natCast];exact hn,rfl⟩)⟩
end Go.Proofs.YthillgheddpmhaaDoor.Pg
namespace Go.Proofs.YthillgheddpmhaaDoor.Pg
open Go Go.AM Go.Proofs.YthillgheddpmhaaDoor.AmGJ
open Nat (reduceAdd reduceLeDiff reduceEqDiff)
open Int (reduceToNat reduceEq reduceLE)
theorem zero1:∀ k:Nat,(List.range (k*1)).map (fun i=>[AVal.int .u64 0].getD (i%1) .undef)=uvals (List.replicate k 0)
 | 0=>rfl
 | k+1=>by
  unfold uvals at *
  rw [List.replicate_succ',List.map_append,←uvals,←zero1 k,Nat.succ_mul,List.range_add,List.map_append]
  congr 1
  simp [Nat.mod_one]
theorem zero4:∀ k:Nat,(List.range (k*4)).map (fun i=>[AVal.int .i64 0,AVal.int .i64 0,AVal.int .i64 0,AVal.int .i64 0].getD (i%4) .undef)=(List.replicate k (⟨0,0,0,0⟩:Sm)).flatMap encS
 | 0=>rfl
 | k+1=>by
  rw [List.replicate_succ',List.flatMap_append,←zero4 k,Nat.succ_mul,List.range_add,List.map_append]
  congr 1
  rw [List.map_map]
  have:∀ i:Nat,(k*4+i)%4=i%4:=fun i=>by omega
  simp [this,List.range_succ,encS]
theorem ms1 {h:AHeap} {k:Nat} (hk:k≤1000000):msV h 1 8 [.int .u64 0] (.int .i64 (k:Int))=some (.sl h.n 0 0 k 1,h.push (.cells 0 false (uvals (List.replicate k 0)))):=by
 unfold msV
 simp only [Int.toNat_natCast]
 rw [if_pos ⟨by omega,by omega,by omega⟩,zero1]
theorem ms4 {h:AHeap} {k:Nat} (hk:k≤1000000):msV h 4 32 [.int .i64 0,.int .i64 0,.int .i64 0,.int .i64 0] (.int .i64 (k:Int))=some (.sl h.n 0 0 k 4,h.push (.cells 0 false ((List.replicate k (⟨0,0,0,0⟩:Sm)).flatMap encS))):=by
 unfold msV
 simp only [Int.toNat_natCast]
 rw [if_pos ⟨by omega,by omega,by omega⟩,zero4]
theorem fr_zero {j:Nat} (hj:j<64):fr 0 j=true:=by unfold fr;simp [hj]
theorem fr_sh {f j:Nat} (hj:j<64):fr (shN f) j=decide (j<f):=by
 unfold fr;rw [shN_bit];by_cases h:f≤j
 ·simp [hj,h]
 ·simp [hj,h];omega
def SlO (h:AHeap) (v:AVal) (vs:List AVal) (F:List Nat):Prop:=(v=.nils∧vs=[]∧F=[])∨∃ id g,v=.sl id g 0 vs.length 1∧h.get id=.cells g false vs∧id<h.n∧F=[id]
theorem SlO.app1 {h:AHeap} {v:AVal} {vs:List AVal} {F:List Nat} (s:SlO h v vs F) {x:AVal} (hx:x.cell=true) {bytes:Nat} (hb:(vs.length+1)*bytes≤1099511627776) {k:AVal→AHeap→Prop}
  (w:∀ h' id g,h'.get id=.cells g false (vs++[x])→id<h'.n→HFrame h h' F [id]→k (.sl id g 0 (vs.length+1) 1) h'):AM.wpOp ((h.push (.cells 0 false [x])).app 1 bytes v (.sl h.n 0 0 1 1)) k:=by
 have f:∀ {F},(∀ j,j∈F→j<h.n)→HFrame h (h.push (.cells 0 false [x])) F F:=fun l=>HFrame.push h (.cells 0 false [x]) l
 have t:SlRd (h.push (.cells 0 false [x])) 1 (fun a:AVal=>[a]) (.sl h.n 0 0 1 1) [x]:=.inr ⟨h.n,0,0,[x],false,rfl,AHeap.get_push_same _ _,by simp,by simp,by simp⟩
 unfold AHeap.app
 rw [t.elems,Option.bind_some]
 rcases s with ⟨rfl,rfl,rfl⟩ | ⟨id,g,rfl,e2,e3,rfl⟩
 ·simp only [List.length_cons,List.length_nil,Nat.zero_add,Nat.one_ne_zero,if_false]
  rw [if_pos ⟨by simpa using hb,by simpa using hx⟩]
  refine w _ _ _ ?_ ?_ ?_
  ·exact (AHeap.get_push_same _ _).trans (by simp)
  ·simp
  ·refine ⟨by simp;omega,rfl,fun j hj _=>?_,fun j hj=>.inr ?_,fun j hj=>?_⟩
   ·rw [AHeap.get_push_ne _ _ (by simp;omega),AHeap.get_push_ne _ _ (by omega)]
   ·simp at hj;omega
   ·simp at hj;simp;omega
 ·have hne:id≠h.n:=by omega
  have e4:(h.push (.cells 0 false [x])).get id=.cells g false vs:=(AHeap.get_push_ne _ _ hne).trans e2
  simp only [List.length_cons,List.length_nil,Nat.zero_add,Nat.one_ne_zero,if_false]
  rw [if_pos ⟨trivial,by simp;omega,by simpa using hb,by simpa using hx⟩]
  simp only [e4]
  rw [if_pos ⟨trivial,by simp⟩]
  refine w _ _ _ ?_ ?_ ?_
  ·rw [AHeap.get_set_same];simp
  ·simp;omega
  ·refine ⟨by simp,rfl,fun j hj hn=>?_,fun j hj=>.inl hj,fun j hj=>?_⟩
   ·rw [AHeap.get_set_ne _ _ (by simpa using hn),AHeap.get_push_ne _ _ (by omega)]
   ·simp at hj;simp;omega
end Go.Proofs.YthillgheddpmhaaDoor.Pg
namespace Go.Proofs.YthillgheddpmhaaDoor.Pg
open Go Go.AM Go.Proofs.YthillgheddpmhaaDoor.AmGJ
open Nat (reduceAdd reduceLeDiff reduceEqDiff)
open Int (reduceToNat reduceEq reduceLE)
theorem fw_rep (m q:Nat):fw (List.replicate m 0) q=decide (q / 64<m):=by
 unfold fw
 rw [List.getElem?_replicate]
 by_cases h:q / 64<m
 ·rw [if_pos h];simp only [fr_zero (Nat.mod_lt q (by decide:0<64))];simp [h]
 ·rw [if_neg h];simp [h]
theorem cl_le {m:Nat} (hm:1≤m):∀ k,cl m k≤(m-1) / 8^k+1
 | 0=>by simp [cl];omega
 | k+1=>by
  have:=cl_le hm k
  rw [cl,Nat.pow_succ,←Nat.div_div_eq_div_mul];omega
def NewR (n:Int) (h h':AHeap) (r:AVal):Prop :=
 (¬ (1≤n∧n≤4096)∧HFrame h h' [] []∧r=.tup [.nilp,.int .i64 1]) ∨
 (1≤n∧n≤4096∧∃ p ws lv,HFrame h h' [] p.F∧PgV h' p n.toNat ws lv∧(∀ q,fw ws q=decide (q<n.toNat))∧r=.tup [.ptr p.id 0 0,.int .i64 0])
set_option maxHeartbeats 8000000 in
theorem newW {h:AHeap} (T:TabR h) (n:Int):CallP AP 15 [.int .i64 n] h fun r h'=>NewR n h h' r:=by
 refine callP (rfl:Tr.get AP 15=some A15) ?_
 generalize hQ:(fun (r:AVal) (h':AHeap)=>_)=Q
 rcases Int.lt_or_le n 1 with c | c
 ·have d1:decide (n<1)=true:=decide_eq_true c
  simp -implicitDefEqProofs (disch:=first|exact dz _|fail) only [↓AM.R0,AM.R1,AM.R2,reduceAdd,reduceLeDiff,reduceEqDiff,reduceToNat,Nat.reduceLT,↓reduceIte,reduceEq,Int.reduceLT,reduceLE,d1]
  subst hQ
  exact .inl ⟨by omega,HFrame.refl (by simp),rfl⟩
 have d1:decide (n<1)=false:=decide_eq_false (by omega)
 rcases Int.lt_or_le 4096 n with c2 | c2
 ·have d2:decide (4096<n)=true:=decide_eq_true c2
  simp -implicitDefEqProofs (disch:=first|exact dz _|fail) only [↓AM.R0,AM.R1,AM.R2,reduceAdd,reduceLeDiff,reduceEqDiff,reduceToNat,Nat.reduceLT,↓reduceIte,reduceEq,Int.reduceLT,reduceLE,d1,d2]
  subst hQ
  exact .inl ⟨by omega,HFrame.refl (by simp),rfl⟩
 have d2:decide (4096<n)=false:=decide_eq_false (by omega)
 obtain ⟨n,rfl⟩:∃ a:Nat,n=a:=⟨n.toNat,by omega⟩
 have w1:IntKind.i64.wrap ((n:Int)+64)=((n+64:Nat):Int):=(wrap64 (by omega) (by omega)).trans (by omega)
 have w2:IntKind.i64.wrap (((n+64:Nat):Int)-1)=((n+63:Nat):Int):=(wrap64 (by omega) (by omega)).trans (by omega)
 have w3:IntKind.i64.wrap (((n+63:Nat):Int).tdiv 64)=(((n+63) / 64:Nat):Int):=wrap64 (n:=(((n+63) / 64:Nat):Int)) (by omega) (by omega)
 have w4:(n:Int).tmod 64=((n%64:Nat):Int):=rfl
 generalize hm:(n+63) / 64=m at *
 have hm1:1≤m:=by omega
 have hm2:m≤64:=by omega
 have ms:=ms1 (h:=h) (k:=m) (by omega)
 simp -implicitDefEqProofs (disch:=first|exact dz _|fail) only [↓AM.R0,AM.R1,AM.R2,reduceAdd,reduceLeDiff,reduceEqDiff,reduceToNat,Nat.reduceLT,↓reduceIte,reduceEq,Int.reduceLT,reduceLE,d1,d2,w1,w2,w3,w4,ms]
 have f0:=((HFrame.refl (h:=h) (F:=[]) (by simp)).pushTmp (.cells 0 false (uvals (List.replicate m 0)))).pushTmp (.cells 0 false [.int .i64 (n:Int),.sl h.n 0 0 m 1,.nils])
 refine AM.cI_cut (fun e' h'=>∃ ws:List Nat,e'.val 4=.ptr (h.n+1) 0 0∧HFrame h h' [] []∧h'.n=h.n+2∧h'.get h.n=.cells 0 false (uvals ws)∧h'.get (h.n+1)=.cells 0 false [.int .i64 (n:Int),.sl h.n 0 0 m 1,.nils] ∧
  ws.length=m∧(∀ w,w∈ws→w<18446744073709551616)∧∀ q,fw ws q=decide (q<n)) ?_ ?_
 ·rintro e1 h1 ⟨ws,e4,f1,n1,g1,g2,hl,hub,hf⟩
  simp -implicitDefEqProofs (disch:=first|exact dz _|fail) only [↓AM.R0,AM.R1,AM.R2,reduceAdd,reduceLeDiff,reduceEqDiff,reduceToNat,Nat.reduceLT,↓reduceIte,reduceEq,Int.reduceLT,reduceLE,e4,g1,g2]
  refine AM.loopI_of (fun k e h'=>∃ (j:Nat) (lv:List (List Sm)) (ids:List Nat) (sv:AVal) (Fs:List Nat),k+j=2∧e.val 4=.ptr (h.n+1) 0 0∧e.val 5=.int .i64 ((cl m j:Nat):Int) ∧
   HFrame h h' [] (h.n::(h.n+1)::(Fs++ids))∧h'.get h.n=.cells 0 false (uvals ws)∧h'.get (h.n+1)=.cells 0 false [.int .i64 (n:Int),.sl h.n 0 0 m 1,sv]∧SlO h' sv (svals ids lv) Fs ∧
   lv.length=j∧ids.length=j∧(∀ k l,lv[k]?=some l→l=List.replicate (cl m k) ⟨0,0,0,0⟩)∧(∀ (k:Nat) (l:List Sm) (i:Nat),lv[k]?=some l→ids[k]?=some i→h'.get i=.cells 0 false (l.flatMap encS)) ∧
   ids.Nodup∧h.n ∉ ids∧h.n+1 ∉ ids∧h.n ∉ Fs∧h.n+1 ∉ Fs∧(∀ i,i∈Fs→i ∉ ids)) 2 ?_ ?_
  ·refine ⟨0,[],[],.nils,[],rfl,?_,?_,?_,?_,?_,.inl ⟨rfl,rfl,rfl⟩,rfl,rfl,fun k l h=>by simp at h,fun k l i h=>by simp at h,List.nodup_nil,by simp,by simp,by simp,by simp,by simp⟩
   ·simp -implicitDefEqProofs (disch:=first|exact dz _|fail) only [↓AM.R0,AM.R1,AM.R2,reduceAdd,reduceLeDiff,reduceEqDiff,reduceToNat,Nat.reduceLT,↓reduceIte,reduceEq,Int.reduceLT,reduceLE,e4]
   ·simp -implicitDefEqProofs (disch:=first|exact dz _|fail) only [↓AM.R0,AM.R1,AM.R2,reduceAdd,reduceLeDiff,reduceEqDiff,reduceToNat,Nat.reduceLT,↓reduceIte,reduceEq,Int.reduceLT,reduceLE,e4];rfl
   ·exact ⟨f1.n,f1.g,fun j hj _=>f1.get j hj (by simp),fun j hj=>by simp at hj;omega,fun j hj=>by simp at hj;omega⟩
   ·exact g1
   ·exact g2
  ·rintro k e h2 ⟨j,lv,ids,sv,Fs,hk,e4,e5,f2,k1,k2,so,l1,l2,lz,lc,nd,z1,z2,z3,z4,z5⟩
   have hlt:=f2.lt
   have hln:h.n<h2.n:=hlt _ (by simp)
   have hln1:h.n+1<h2.n:=hlt _ (by simp)
   have hcl:cl m j≤64:=by
    have:∀ k,cl m k≤64:=fun k=>by
     induction k with
     | zero=>exact hm2
     | succ k ih=>rw [cl];omega
    exact this j
   have ms:=ms4 (h:=h2) (k:=cl m j) (by omega)
   have svl:(svals ids lv).length=j:=by unfold svals;rw [List.length_zipWith];omega
   simp -implicitDefEqProofs (disch:=first|exact dz _|fail) only [↓AM.R0,AM.R1,AM.R2,reduceAdd,reduceLeDiff,reduceEqDiff,reduceToNat,Nat.reduceLT,↓reduceIte,reduceEq,Int.reduceLT,reduceLE,e4,e5,k2,ms]
   have fA:=HFrame.push h2 (.cells 0 false ((List.replicate (cl m j) (⟨0,0,0,0⟩:Sm)).flatMap encS)) (F:=h.n::(h.n+1)::(Fs++ids)) hlt
   have gA:(h2.push (.cells 0 false ((List.replicate (cl m j) (⟨0,0,0,0⟩:Sm)).flatMap encS))).get h2.n=.cells 0 false ((List.replicate (cl m j) (⟨0,0,0,0⟩:Sm)).flatMap encS):=AHeap.get_push_same _ _
   have gA':∀ j,j<h2.n→(h2.push (.cells 0 false ((List.replicate (cl m j) (⟨0,0,0,0⟩:Sm)).flatMap encS))).get j=h2.get j:=fun j hj=>AHeap.get_push_ne _ _ (by omega)
   have nA:(h2.push (.cells 0 false ((List.replicate (cl m j) (⟨0,0,0,0⟩:Sm)).flatMap encS))).n=h2.n+1:=by simp
   have gk:∀ i,i<h2.n→(h2.push (.cells 0 false ((List.replicate (cl m j) (⟨0,0,0,0⟩:Sm)).flatMap encS))).get i=h2.get i:=fun i hi=>AHeap.get_push_ne _ _ (by omega)
   generalize h2.push (.cells 0 false ((List.replicate (cl m j) (⟨0,0,0,0⟩:Sm)).flatMap encS))=hA at *
   have soA:SlO hA sv (svals ids lv) Fs:=by
    rcases so with q | ⟨id,g,q1,q2,q3,q4⟩
    ·exact .inl q
    ·exact .inr ⟨id,g,q1,(gk id q3).trans q2,by omega,q4⟩
   rw [show h2.n+1=hA.n from nA.symm]
   refine AM.trOp_of (SlO.app1 soA rfl (by rw [svl];omega) fun h3 is gs gis lis f3=>?_)
   have fl1:=fun i (hi:i∈Fs)=>hlt i (by simp [hi])
   have fl2:=fun i (hi:i∈ids)=>hlt i (by simp [hi])
   have q1:h3.get (h.n+1)=.cells 0 false [.int .i64 (n:Int),.sl h.n 0 0 m 1,sv]:=(f3.get _ (by omega) z4).trans ((gk _ hln1).trans k2)
   have q2:h3.get h.n=.cells 0 false (uvals ws):=(f3.get _ (by omega) z3).trans ((gk _ hln).trans k1)
   have n3:h2.n+1≤h3.n:=by have:=f3.n;omega
   have isn:is∈Fs∨h2.n+1≤is:=by
    rcases f3.new is (by simp) with q | q
    ·exact .inl q
    ·exact .inr (by omega)
   have gA0:=(gk _ hln1).trans k2
   have hbq:sv.beq sv=true:=by
    rcases so with ⟨rfl,_⟩ | ⟨_,_,rfl,_⟩
    ·rfl
    ·exact AM.beq_sl _ _ _ _ _
   have svl':(svals ids lv).length=lv.length:=by omega
   simp -implicitDefEqProofs (disch:=first|exact dz _|fail) only [↓AM.R0,AM.R1,AM.R2,reduceAdd,reduceLeDiff,reduceEqDiff,reduceToNat,Nat.reduceLT,↓reduceIte,reduceEq,Int.reduceLT,reduceLE,q1,gA0,hbq,svl,e5]
   have z0:(List.replicate (cl m j) (⟨0,0,0,0⟩:Sm)).length=cl m j:=List.length_replicate
   have sva:svals (ids++[h2.n]) (lv++[List.replicate (cl m j) ⟨0,0,0,0⟩])=svals ids lv++[.sl h2.n 0 0 (cl m j) 4]:=by
    unfold svals
    rw [List.zipWith_append (by omega)]
    simp only [List.zipWith_cons_cons,List.zipWith_nil_left,z0]
   have hne1:is≠h.n+1:=by
    rcases isn with q | q
    ·rintro rfl;exact z4 q
    ·omega
   have hne2:is≠h.n:=by
    rcases isn with q | q
    ·rintro rfl;exact z3 q
    ·omega
   have hne3:is ∉ ids++[h2.n]:=by
    rw [List.mem_append,List.mem_singleton]
    rintro (q3 | q3)
    ·rcases isn with q | q
     ·exact z5 _ q q3
     ·have:=fl2 _ q3;omega
    ·rcases isn with q | q
     ·have:=fl1 _ q;omega
     ·omega
   have o1:(h3.set (h.n+1) (.cells 0 false [.int .i64 (n:Int),.sl h.n 0 0 m 1,.sl is gs 0 (j+1) 1])).get is=.cells gs false (svals (ids++[h2.n]) (lv++[List.replicate (cl m j) ⟨0,0,0,0⟩])):=by
    rw [AHeap.get_set_ne _ _ hne1,gis,sva]
   have o2:(h3.set (h.n+1) (.cells 0 false [.int .i64 (n:Int),.sl h.n 0 0 m 1,.sl is gs 0 (j+1) 1])).get h.n=.cells 0 false (uvals ws):=by
    rw [AHeap.get_set_ne _ _ (by omega),q2]
   have o3:∀ (k:Nat) (l:List Sm) (i:Nat),(lv++[List.replicate (cl m j) (⟨0,0,0,0⟩:Sm)])[k]?=some l→(ids++[h2.n])[k]?=some i→(h3.set (h.n+1) (.cells 0 false [.int .i64 (n:Int),.sl h.n 0 0 m 1,.sl is gs 0 (j+1) 1])).get i=.cells 0 false (l.flatMap encS):=by
    intro k l i h5 h6
    have hnF:∀ i,i∈ids∨i=h2.n→i ∉ Fs:=fun i hi hm=>by
     rcases hi with hi | rfl
     ·exact z5 _ hm hi
     ·have:=fl1 _ hm;omega
    rcases Nat.lt_or_ge k j with c | c
    ·rw [List.getElem?_append_left (by omega)] at h5 h6
     have hm:=List.mem_of_getElem? h6
     have:=fl2 _ hm
     rw [AHeap.get_set_ne _ _ (by rintro rfl;exact z2 hm),f3.get _ (by omega) (hnF _ (.inl hm)),gk _ this]
     exact lc k l i h5 h6
    ·rw [List.getElem?_append_right (by omega)] at h5 h6
     obtain rfl:k=j:=by
      have:=(List.getElem?_eq_some_iff.1 h5).1
      simp only [List.length_cons,List.length_nil] at this;omega
     simp only [l1,l2,Nat.sub_self,List.getElem?_cons_zero,Option.some.injEq] at h5 h6
     subst h5 h6
     rw [AHeap.get_set_ne _ _ (by omega),f3.get _ (by omega) (hnF _ (.inr rfl)),gA]
   have o4:∀ k l,(lv++[List.replicate (cl m j) (⟨0,0,0,0⟩:Sm)])[k]?=some l→l=List.replicate (cl m k) ⟨0,0,0,0⟩:=by
    intro k l h5
    rcases Nat.lt_or_ge k j with c | c
    ·rw [List.getElem?_append_left (by omega)] at h5
     exact lz k l h5
    ·rw [List.getElem?_append_right (by omega)] at h5
     obtain rfl:k=j:=by
      have:=(List.getElem?_eq_some_iff.1 h5).1
      simp only [List.length_cons,List.length_nil] at this;omega
     simp only [l1,Nat.sub_self,List.getElem?_cons_zero,Option.some.injEq] at h5
     exact h5.symm
   have o5:(ids++[h2.n]).Nodup:=by
    rw [List.nodup_append]
    exact ⟨nd,by simp,fun a ha b hb=>by have:=fl2 a ha;simp at hb;omega⟩
   have o6:h.n ∉ ids++[h2.n]:=by simp only [List.mem_append,List.mem_singleton,not_or];exact ⟨z1,by omega⟩
   have o7:h.n+1 ∉ ids++[h2.n]:=by simp only [List.mem_append,List.mem_singleton,not_or];exact ⟨z2,by omega⟩
   have o8:(lv++[List.replicate (cl m j) (⟨0,0,0,0⟩:Sm)]).length=j+1:=by simp [l1]
   have o9:(ids++[h2.n]).length=j+1:=by simp [l2]
   have o10:HFrame h (h3.set (h.n+1) (.cells 0 false [.int .i64 (n:Int),.sl h.n 0 0 m 1,.sl is gs 0 (j+1) 1])) [] (h.n::(h.n+1)::([is]++(ids++[h2.n]))):=by
    have hx:∀ j,j∈h.n::(h.n+1)::([is]++(ids++[h2.n]))→h.n≤j∧j<h3.n:=fun j hj=>by
     have b1:h.n≤is:=by
      rcases isn with q | q
      ·rcases f2.new is (by simp [q]) with e | e
       ·simp at e
       ·exact e
      ·omega
     have b2:=lis
     simp only [List.mem_cons,List.mem_append,List.not_mem_nil,or_false] at hj
     rcases hj with rfl | rfl | rfl | hj | rfl
     ·omega
     ·omega
     ·exact ⟨b1,b2⟩
     ·have:=fl2 _ hj
      rcases f2.new j (by simp [hj]) with e | e
      ·simp at e
      ·omega
     ·omega
    refine ⟨by simp;omega,(by have:=f3.g;have:=f2.g;have:=fA.g;simp_all [AHeap.set]),fun j hj _=>?_,fun j hj=>.inr (hx j hj).1,fun j hj=>by simpa using (hx j hj).2⟩
    rw [AHeap.get_set_ne _ _ (by omega),f3.get _ (by omega) (fun hm=>?_),gk _ (by omega)]
    ·exact f2.get _ hj (by simp)
    ·rcases f2.new j (by simp [hm]) with e | e
     ·simp at e
     ·omega
   have o11:(h3.set (h.n+1) (.cells 0 false [.int .i64 (n:Int),.sl h.n 0 0 m 1,.sl is gs 0 (j+1) 1])).get (h.n+1)=.cells 0 false [.int .i64 (n:Int),.sl h.n 0 0 m 1,.sl is gs 0 (j+1) 1]:=AHeap.get_set_same _ _ _
   have e4':=e4
   generalize h3.set (h.n+1) (.cells 0 false [.int .i64 (n:Int),.sl h.n 0 0 m 1,.sl is gs 0 (j+1) 1])=h4 at *
   refine AM.cI_bool (fun hb=>?_) (fun hb=>?_)
   ·have hcl1:cl m j=1:=by simp only [decide_eq_true_eq] at hb;omega
    have hl4:h.n+1<h4.n:=o10.lt _ (by simp)
    have hl4':h.n<h4.n:=o10.lt _ (by simp)
    have g1':h4.get (h.n+1)=.cells 0 false [.int .i64 (n:Int),.sl h.n 0 0 m 1,.sl is gs 0 (j+1) 1]:=o11
    simp -implicitDefEqProofs (disch:=first|exact dz _|fail) only [↓AM.R0,AM.R1,AM.R2,reduceAdd,reduceLeDiff,reduceEqDiff,reduceToNat,Nat.reduceLT,↓reduceIte,reduceEq,Int.reduceLT,reduceLE,e4,g1',o2]
    clear hb e4' e5 q1 q2 gA gA0 gk so soA hbq sva gis f3 fA k1 k2 lc lz
    generalize hids:ids++[h2.n]=idz at *
    generalize hlvz:lv++[List.replicate (cl m j) ⟨0,0,0,0⟩]=lvz at *
    have hF:∀ x,x∈(⟨h.n+1,h.n,is,gs,idz⟩:PI).F↔x∈h.n::(h.n+1)::([is]++idz):=fun x=>by
     simp only [PI.F,List.mem_cons,List.mem_append,List.not_mem_nil,or_false]
     constructor
     ·rintro (q | q | q | q)
      ·exact .inr (.inl q)
      ·exact .inl q
      ·exact .inr (.inr (.inl q))
      ·exact .inr (.inr (.inr q))
     ·rintro (q | q | q | q)
      ·exact .inr (.inl q)
      ·exact .inl q
      ·exact .inr (.inr (.inl q))
      ·exact .inr (.inr (.inr q))
    have FR:HFrame h h4 [] (⟨h.n+1,h.n,is,gs,idz⟩:PI).F:=⟨o10.n,o10.g,o10.get,fun j hj=>o10.new j ((hF j).1 hj),fun j hj=>o10.lt j ((hF j).1 hj)⟩
    have h0:0 ∉ (⟨h.n+1,h.n,is,gs,idz⟩:PI).F:=fun hm=>by
     rcases FR.new 0 hm with e | e
     ·simp at e
     ·have:=T.2;omega
    have PR:PgR h4 ⟨h.n+1,h.n,is,gs,idz⟩ n ws lvz:=by
     refine ⟨?_,o2,o1,o3,by rw [o9,o8],hub,?_,FR.lt,h0⟩
     ·rw [g1',hl,o8]
     ·simp only [PI.F,List.nodup_cons,List.mem_cons,not_or]
      exact ⟨⟨by omega,Ne.symm hne1,o7⟩,⟨Ne.symm hne2,o6⟩,hne3,o5⟩
    have T4:=T.frame FR (by simp)
    have SH:Shape ws.length lvz:=fun k l hk=>by rw [o4 k l hk,List.length_replicate,hl]
    have B0:∀ (k:Nat) (l:List Sm) (j:Nat) (x:Sm),lvz[k]?=some l→l[j]?=some x→SmB k x:=fun k l j x h5 h6=>by
     rw [o4 k l h5,List.getElem?_replicate] at h6
     split at h6
     ·simp only [Option.some.injEq] at h6
      subst h6
      exact ⟨Nat.le_refl _,Nat.le_refl _,Nat.le_refl _,Nat.zero_le _⟩
     ·cases h6
    generalize hp:(⟨h.n+1,h.n,is,gs,idz⟩:PI)=p at *
    have hpid:p.id=h.n+1:=by rw [←hp]
    have hwm:ws.length=m:=hl
    refine AM.loopI_of (fun k e h'=>∃ (i:Nat) (lx:List (List Sm)),k+i=m∧e.val 4=.ptr p.id 0 0∧e.val 63=.int .i64 (m:Int)∧e.val 64=.int .i64 (i:Int)∧HFrame h4 h' p.F p.F∧PgR h' p n ws lx∧Shape ws.length lx∧lx.length=j+1 ∧
     (∀ (k:Nat) (l:List Sm) (j:Nat) (x:Sm),lx[k]?=some l→l[j]?=some x→min (8^k*(j+1)) m≤i→Val (fw ws) (64*ws.length) k j x)∧(∀ (k:Nat) (l:List Sm) (j:Nat) (x:Sm),lx[k]?=some l→l[j]?=some x→SmB k x)) m ?_ ?_
    ·refine ⟨0,lvz,by omega,?_,?_,?_,HFrame.refl PR.lt,PR,SH,o8,fun k l j x h5 h6 h7=>?_,B0⟩
     ·simp -implicitDefEqProofs (disch:=first|exact dz _|fail) only [↓AM.R0,AM.R1,AM.R2,reduceAdd,reduceLeDiff,reduceEqDiff,reduceToNat,Nat.reduceLT,↓reduceIte,reduceEq,Int.reduceLT,reduceLE,e4,hpid]
     ·simp -implicitDefEqProofs (disch:=first|exact dz _|fail) only [↓AM.R0,AM.R1,AM.R2,reduceAdd,reduceLeDiff,reduceEqDiff,reduceToNat,Nat.reduceLT,↓reduceIte,reduceEq,Int.reduceLT,reduceLE]
     ·simp -implicitDefEqProofs (disch:=first|exact dz _|fail) only [↓AM.R0,AM.R1,AM.R2,reduceAdd,reduceLeDiff,reduceEqDiff,reduceToNat,Nat.reduceLT,↓reduceIte,reduceEq,Int.reduceLT,reduceLE];rfl
     ·have:0<8^k*(j+1):=Nat.mul_pos (Nat.pow_pos (by decide)) (by omega)
      omega
    ·rintro k e h5 ⟨i,lx,hk,e4,e63,e64,f5,R5,S5,L5,V5,B5⟩
     simp -implicitDefEqProofs (disch:=first|exact dz _|fail) only [↓AM.R0,AM.R1,AM.R2,reduceAdd,reduceLeDiff,reduceEqDiff,reduceToNat,Nat.reduceLT,↓reduceIte,reduceEq,Int.reduceLT,reduceLE,e63,e64]
     refine AM.cI_bool (fun hc=>?_) (fun hc=>?_)
     ·simp only [decide_eq_true_eq] at hc
      have T5:=T4.frame f5 h0
      simp -implicitDefEqProofs (disch:=first|exact dz _|fail) only [↓AM.R0,AM.R1,AM.R2,reduceAdd,reduceLeDiff,reduceEqDiff,reduceToNat,Nat.reduceLT,↓reduceIte,reduceEq,Int.reduceLT,reduceLE,e4,e64]
      refine AM.callI_of (renewG T5 R5 S5 (by omega) (by omega) (i:=i) (by omega) (by omega) (fun k j=>min (8^k*(j+1)) m≤i+1) ?_ B5 ?_) ?_
      ·intro k j j' h6 h7 h8 h9
       have:8^k*(j'+1)≤8^(k+1)*(j+1):=by
        rw [Nat.pow_succ,Nat.mul_assoc];exact Nat.mul_le_mul_left _ (by omega)
       omega
      ·intro k l j x h6 h7 h8 h9
       refine V5 k l j x h6 h7 ?_
       have hjl:=(List.getElem?_eq_some_iff.1 h7).1
       rw [S5 k l h6,hwm] at hjl
       have hcl2:=cl_le (m:=m) hm1 k
       rcases Nat.lt_or_ge i (8^k*(j+1)) with c | c
       ·rcases Nat.lt_or_ge i m with c3 | c3
        ·rcases Nat.lt_or_ge (i+1) m with c4 | c4
         ·exfalso
          apply h9
          symm
          refine Nat.div_eq_of_lt_le ?_ ?_
          ·rw [Nat.mul_comm]
           have:0<8^k:=Nat.pow_pos (by decide)
           have:8^k*(j+1)=8^k*j+8^k:=Nat.mul_succ _ _
           omega
          ·rw [Nat.mul_comm];exact c
         ·obtain rfl:i=m-1:=by omega
          have h10:j+1≤(m-1) / 8^k:=by omega
          have:=(Nat.le_div_iff_mul_le (Nat.pow_pos (by decide))).1 h10
          rw [Nat.mul_comm] at this
          omega
        ·omega
       ·omega
      ·rintro r h6 ⟨ly,f6,R6,S6,L6,V6,B6,rfl⟩
       have wi:IntKind.i64.wrap ((i:Int)+1)=((i+1:Nat):Int):=(wrap64 (by omega) (by omega)).trans (by omega)
       simp -implicitDefEqProofs (disch:=first|exact dz _|fail) only [↓AM.R0,AM.R1,AM.R2,reduceAdd,reduceLeDiff,reduceEqDiff,reduceToNat,Nat.reduceLT,↓reduceIte,reduceEq,Int.reduceLT,reduceLE,e64,wi]
       exact ⟨k-1,by omega,i+1,ly,by omega,e4,e63,rfl,f5.trans f6,R6,S6,by omega,V6,B6⟩
     ·simp only [decide_eq_false_iff_not] at hc
      simp -implicitDefEqProofs (disch:=first|exact dz _|fail) only [↓AM.R0,AM.R1,AM.R2,reduceAdd,reduceLeDiff,reduceEqDiff,reduceToNat,Nat.reduceLT,↓reduceIte,reduceEq,Int.reduceLT,reduceLE,e4]
      subst hQ
      refine .inr ⟨by omega,by omega,p,ws,lx,FR.trans f5,⟨R5,S5,by omega,by omega,by rw [hwm,L5];exact hcl1,fun k l j x h6 h7=>V5 k l j x h6 h7 (by omega),by rw [Int.toNat_natCast];omega,by rw [Int.toNat_natCast];omega,by rw [Int.toNat_natCast,hwm,hm],fun q hq=>?_⟩,by rw [Int.toNat_natCast];exact hf,rfl⟩
      rw [Int.toNat_natCast] at hq
      rw [hf q];exact decide_eq_false (by omega)
   ·have hcl1:cl m j≠1:=by simp only [decide_eq_false_iff_not] at hb;omega
    have hj2:j≠2:=by
     rintro rfl
     apply hcl1
     simp only [cl];omega
    have w8:IntKind.i64.wrap (((cl m j:Nat):Int)+7)=((cl m j+7:Nat):Int):=(wrap64 (by omega) (by omega)).trans (by omega)
    have w9:IntKind.i64.wrap (((cl m j+7:Nat):Int).tdiv 8)=((cl m (j+1):Nat):Int):=wrap64 (n:=(((cl m j+7) / 8:Nat):Int)) (by omega) (by omega)
    simp -implicitDefEqProofs (disch:=first|exact dz _|fail) only [↓AM.R0,AM.R1,AM.R2,reduceAdd,reduceLeDiff,reduceEqDiff,reduceToNat,Nat.reduceLT,↓reduceIte,reduceEq,Int.reduceLT,reduceLE,e4,e5,w8,w9]
    refine ⟨k-1,by omega,j+1,_,_,.sl is gs 0 (j+1) 1,[is],by omega,rfl,o10,o2,o11,.inr ⟨is,gs,?_,o1,o10.lt _ (by simp),rfl⟩,o8,o9,o4,o3,o5,o6,o7,by simpa using Ne.symm hne2,by simpa using Ne.symm hne1,fun i hi=>by simp at hi;rw [hi];exact hne3⟩
    rw [sva,List.length_append,svl];rfl
 ·have hg1:((h.push (.cells 0 false (uvals (List.replicate m 0)))).push (.cells 0 false [.int .i64 (n:Int),.sl h.n 0 0 m 1,.nils])).get h.n=.cells 0 false (uvals (List.replicate m 0)):=by
   rw [AHeap.get_push_ne _ _ (by simp),AHeap.get_push_same]
  have hg2:((h.push (.cells 0 false (uvals (List.replicate m 0)))).push (.cells 0 false [.int .i64 (n:Int),.sl h.n 0 0 m 1,.nils])).get (h.n+1)=.cells 0 false [.int .i64 (n:Int),.sl h.n 0 0 m 1,.nils]:=by
   exact AHeap.get_push_same _ _
  have hn2:((h.push (.cells 0 false (uvals (List.replicate m 0)))).push (.cells 0 false [.int .i64 (n:Int),.sl h.n 0 0 m 1,.nils])).n=h.n+2:=by simp
  generalize ((h.push (.cells 0 false (uvals (List.replicate m 0)))).push (.cells 0 false [.int .i64 (n:Int),.sl h.n 0 0 m 1,.nils]))=h1 at *
  refine AM.cI_bool (fun hb=>?_) (fun hb=>?_)
  ·have hb':n%64≠0:=by simp at hb;omega
   have x1:=ix1 hg1 (len:=m) (i:=m-1) (by omega)
   have w5:IntKind.i64.wrap ((m:Int)-1)=((m-1:Nat):Int):=(wrap64 (by omega) (by omega)).trans (by omega)
   have w6:=shl_nat (h:=h1) (b:=n%64) (l:=.i64) (by omega)
   have ul:(uvals (List.replicate m 0)).length=m:=by unfold uvals;simp
   have ul2:m-1+1≤(uvals (List.replicate m 0)).length:=by omega
   have uset:(uvals (List.replicate m 0)).take (m-1)++[.int .u64 ((shN (n%64):Nat):Int)]++(uvals (List.replicate m 0)).drop (m-1+1)=uvals ((List.replicate m 0).set (m-1) (shN (n%64))):=by
    have:uvals ((List.replicate m 0).set (m-1) (shN (n%64)))=(uvals (List.replicate m 0)).set (m-1) (.int .u64 ((shN (n%64):Nat):Int)):=by unfold uvals;rw [List.map_set]
    rw [this,List.set_eq_take_append_cons_drop,if_pos (by omega),List.append_assoc];rfl
   simp -implicitDefEqProofs (disch:=first|exact dz _|fail) only [↓AM.R0,AM.R1,AM.R2,reduceAdd,reduceLeDiff,reduceEqDiff,reduceToNat,Nat.reduceLT,↓reduceIte,reduceEq,Int.reduceLT,reduceLE,hg1,hg2,x1,w4,w5,w6,ul2,uset]
   refine ⟨(List.replicate m 0).set (m-1) (shN (n%64)),f0.setTmp (Nat.le_refl _) _,hn2,rfl,by simp,fun w hw=>?_,fun q=>?_⟩
   ·rcases List.mem_or_eq_of_mem_set hw with q | q
    ·rw [List.eq_of_mem_replicate q];decide
    ·rw [q];exact shN_lt _
   ·rw [fw_set (by simp;omega)]
    by_cases e:q / 64=m-1
    ·rw [if_pos e,fr_sh (by omega)]
     exact decide_eq_decide.2 (by omega)
    ·rw [if_neg e,fw_rep]
     exact decide_eq_decide.2 (by omega)
  ·have hb':n%64=0:=by simp at hb;omega
   simp -implicitDefEqProofs (disch:=first|exact dz _|fail) only [↓AM.R0,AM.R1,AM.R2,reduceAdd,reduceLeDiff,reduceEqDiff,reduceToNat,Nat.reduceLT,↓reduceIte,reduceEq,Int.reduceLT,reduceLE]
   refine ⟨List.replicate m 0,f0,hn2,hg1,hg2,by simp,fun w hw=>by rw [List.eq_of_mem_replicate hw];decide,fun q=>?_⟩
   rw [fw_rep]
   exact decide_eq_decide.2 (by omega)
end Go.Proofs.YthillgheddpmhaaDoor.Pg
namespace Go.Proofs.YthillgheddpmhaaDoor.Pg
open Go Go.AM Go.Proofs.YthillgheddpmhaaDoor.AmGJ
open Nat (reduceAdd reduceLeDiff reduceEqDiff)
open Int (reduceToNat reduceEq reduceLE)
theorem PgV.keep {h h':AHeap} {A:List Nat} {p:PI} {n:Nat} {ws:List Nat} {lv:List (List Sm)} (K:PgV h p n ws lv) (f:HFrame h h' [] A):PgV h' p n ws lv :=
 ⟨K.R.frame f.n fun j hj=>f.get j (K.R.lt j hj) (by simp),K.S,K.ne,K.le,K.top,K.V,K.n1,K.n2,K.wl,K.out⟩
theorem PgV.keepD {h h':AHeap} {A A':List Nat} {p:PI} {n:Nat} {ws:List Nat} {lv:List (List Sm)} (K:PgV h p n ws lv) (f:HFrame h h' A A') (d:∀ j,j∈p.F→j ∉ A):PgV h' p n ws lv :=
 ⟨K.R.frame f.n fun j hj=>f.get j (K.R.lt j hj) (d j hj),K.S,K.ne,K.le,K.top,K.V,K.n1,K.n2,K.wl,K.out⟩
theorem HFrame.non {h h':AHeap} {A B:List Nat} (f:HFrame h h' A B):HFrame h h' A []:=⟨f.n,f.g,f.get,fun j hj=>(nomatch hj),fun j hj=>(nomatch hj)⟩
theorem FirstAt.le {f:Nat→Bool} {k a p:Nat} (F:FirstAt f k a) (r:Row f p k):a≤p:=by
 rcases Nat.lt_or_ge p a with q | q
 ·exact absurd r (F.2 p q)
 ·exact q
theorem AllocR.here {ws ws':List Nat} {k:Nat} {r:AVal} (R:AllocR ws ws' (k:Int) r) (k1:1≤k) {p:Nat} (rp:Row (fw ws) p k):∃ a:Nat,FirstAt (fw ws) k a∧(∀ q:Nat,fw ws' q=if a≤q∧q<a+k then false else fw ws q)∧r=.tup [.int .i64 (a:Int),.int .i64 0]:=by
 rcases R with ⟨h1,_⟩ | ⟨_,h2,_⟩ | ⟨_,a,h3,h4,h5⟩
 ·omega
 ·rw [Int.toNat_natCast] at h2
  exact absurd rp (h2 p)
 ·rw [Int.toNat_natCast] at h3 h4
  exact ⟨a,h3,h4,h5⟩
theorem TurnR.yes {n:Nat} {ws ws':List Nat} {b m:Nat} {u:Bool} {r:AVal} (R:TurnR n ws ws' (b:Int) (m:Int) u r) (m1:1≤m) (hb:b+m≤n) (H:∀ q,b≤q→q<b+m→fw ws q=u):(∀ q:Nat,fw ws' q=if b≤q∧q<b+m then !u else fw ws q)∧r=.int .i64 0:=by
 rcases R with ⟨h1,h2,h3,h4⟩ | ⟨h1,⟨q,h2,h3,h4⟩,_⟩ | ⟨h1,_⟩
 ·refine ⟨fun q=>(h3 q).trans ?_,h4⟩
  by_cases c:b≤q∧q<b+m
  ·rw [if_pos c,if_pos (by omega)]
  ·rw [if_neg c,if_neg (by omega)]
 ·rw [H q (by omega) (by omega)] at h4
  cases u<;>cases h4
 ·rw [←Bool.not_eq_true,inB_true] at h1;omega
theorem TurnR.no {n:Nat} {ws ws':List Nat} {b m:Nat} {u:Bool} {r:AVal} (R:TurnR n ws ws' (b:Int) (m:Int) u r) (m1:1≤m) (hb:b+m≤n) {q:Nat} (h5:b≤q) (h6:q<b+m) (h7:fw ws q=!u):ws'=ws∧r=.int .i64 5:=by
 rcases R with ⟨h1,h2,h3,h4⟩ | ⟨h1,_,h3,h4⟩ | ⟨h1,_⟩
 ·rw [h2 q (by omega) (by omega)] at h7
  cases u<;>cases h7
 ·exact ⟨h3,h4⟩
 ·rw [←Bool.not_eq_true,inB_true] at h1;omega
theorem fi_nat (ws:List Nat) (a:Nat):fi ws (a:Int)=fw ws a:=by
 have:decide (0≤(a:Int))=true:=decide_eq_true (by omega)
 rw [fi,this,Int.toNat_natCast];rfl
end Go.Proofs.YthillgheddpmhaaDoor.Pg