/-
 What the functions of this seat do,on the machine: lemmas for the laws.
-/
import Derived.Test.YthillgheddpmhaaDoorMX5
import Derived.Test.YthillgheddpmhaaDoorMX8
set_option linter.unusedSimpArgs false
set_option linter.unusedVariables false
set_option maxRecDepth 100000
attribute [local irreducible] Go.AM.wp Go.AM.wpIs Go.AM.wpTr Go.AM.opI Go.AM.gI Go.AM.cI Go.AM.trI Go.AM.callI Go.AM.fnI Go.AM.yldI Go.AM.rangeI Go.AM.rangeC Go.AM.YldP Go.AM.asgQ Go.AM.roundQ Go.AM.rangeQ Go.AM.trG Go.AM.trOp Go.AM.trCall Go.AM.seqC Go.AM.loopI
namespace Go.Proofs.YthillgheddpmhaaDoor.Pg
open Go Go.AM Go.Proofs.YthillgheddpmhaaDoor.AmGJ
open Nat (reduceAdd reduceLeDiff reduceEqDiff)
open Int (reduceToNat reduceEq reduceLE)
theorem pc_le':∀ n x,pc n x≤n
 | 0,_=>Nat.le_refl _
 | n+1,x=>by rw [pc];have:=pc_le' n (x / 2);omega
theorem pc_z:∀ n,pc n 0=0
 | 0=>rfl
 | n+1=>by rw [pc,Nat.zero_mod,Nat.zero_div,pc_z n]
theorem or_half (x k:Nat):(x ||| 2^(k+1)) / 2=x / 2 ||| 2^k:=by
 apply Nat.eq_of_testBit_eq
 intro i
 have h1:∀ y:Nat,(y / 2).testBit i=y.testBit (i+1):=fun y=>by rw [Nat.testBit_succ]
 rw [h1,Nat.testBit_or,Nat.testBit_or,h1,Nat.testBit_two_pow,Nat.testBit_two_pow]
 congr 1
 exact decide_eq_decide.2 (by omega)
theorem or_mod (x k:Nat):(x ||| 2^(k+1))%2=x%2:=by
 have h:=Nat.testBit_or x (2^(k+1)) 0
 rw [Nat.testBit_two_pow] at h
 simp only [Nat.testBit_zero] at h
 rcases Nat.mod_two_eq_zero_or_one x with e | e<;>rcases Nat.mod_two_eq_zero_or_one (x ||| 2^(k+1)) with e2 | e2<;>simp [e,e2] at h ⊢
theorem pc_set:∀ (n k x:Nat),k<n→x.testBit k=false→pc n (x ||| 2^k)=pc n x+1
 | 0,k,x,h,_=>by omega
 | n+1,0,x,h,hb=>by
  have h0:x%2=0:=by
   rw [Nat.testBit_zero] at hb
   have:=of_decide_eq_false hb
   omega
  have e1:(x ||| 2^0)=x+1:=by
   have:x=2*(x / 2):=by omega
   rw [this]
   have h2:=Nat.two_pow_add_eq_or_of_lt (i:=1) (b:=1) (by decide) (x / 2)
   rw [Nat.pow_one] at h2
   exact h2.symm
  rw [e1,pc,pc]
  have:(x+1) / 2=x / 2:=by omega
  rw [this];omega
 | n+1,k+1,x,h,hb=>by
  have ih:=pc_set n k (x / 2) (by omega) (by rw [Nat.testBit_succ] at hb;exact hb)
  rw [pc,pc,or_half,or_mod,ih];omega
theorem clr_bit {u k:Nat} (hu:u<18446744073709551616) (hk:k<64):(u &&& (18446744073709551616-1-2^k)).testBit k=false∧(u.testBit k=true→(u &&& (18446744073709551616-1-2^k)) ||| 2^k=u):=by
 have hp:2^k<2^64:=Nat.pow_lt_pow_right (by decide) hk
 have e:(18446744073709551616-1-2^k:Nat)=2^64-(2^k+1):=by
  have:(2:Nat)^64=18446744073709551616:=by decide
  omega
 have hb:∀ i,(u &&& (18446744073709551616-1-2^k)).testBit i=(u.testBit i&&(decide (i<64)&&!decide (k=i))):=fun i=>by
  rw [Nat.testBit_and,e,Nat.testBit_two_pow_sub_succ hp,Nat.testBit_two_pow]
 refine ⟨by rw [hb];simp,fun ht=>?_⟩
 apply Nat.eq_of_testBit_eq
 intro i
 rw [Nat.testBit_or,hb,Nat.testBit_two_pow]
 by_cases hi:i<64
 ·by_cases e2:k=i
  ·subst e2;simp [ht]
  ·simp [hi,e2]
 ·have:u.testBit i=false:=Nat.testBit_lt_two_pow (Nat.lt_of_lt_of_le (show u<2^64 from hu) (Nat.pow_le_pow_right (by decide) (by omega)))
  have e2:¬ k=i:=by omega
  simp [this,e2]
def clr (u k:Nat):Nat:=u &&& (18446744073709551616-1-2^k)
theorem pc_clr {u k:Nat} (hu:u<18446744073709551616) (hk:k<64) (ht:u.testBit k=true):pc 64 (clr u k)+1=pc 64 u:=by
 obtain ⟨h1,h2⟩:=clr_bit hu hk
 have:=pc_set 64 k _ hk h1
 rw [h2 ht] at this
 exact this.symm
theorem clr_le (u k:Nat):clr u k≤u:=Nat.and_le_left
def lowZ (u:Nat):Nat:=ctz 64 (18446744073709551616-1-u)
theorem low_bit {u:Nat} (hu:u<18446744073709551616) (i:Nat):(18446744073709551616-1-u).testBit i=(decide (i<64)&&!u.testBit i):=by
 have e:(18446744073709551616-1-u:Nat)=2^64-(u+1):=by
  have:(2:Nat)^64=18446744073709551616:=by decide
  omega
 rw [e,Nat.testBit_two_pow_sub_succ (show u<2^64 from hu)]
theorem pc_ones:∀ n k,k≤n→pc n (2^k-1)=k
 | 0,k,h=>by
  obtain rfl:k=0:=by omega
  rfl
 | n+1,0,_=>by rw [Nat.pow_zero,Nat.sub_self,pc_z]
 | n+1,k+1,h=>by
  have hp:=Nat.two_pow_pos k
  rw [pc,show (2^(k+1)-1) / 2=2^k-1 by rw [Nat.pow_succ];omega,show (2^(k+1)-1)%2=1 by rw [Nat.pow_succ];omega,pc_ones n k (by omega)];omega
theorem lowZ_ok {u n:Nat} (hn:n≤64) (hu:u<2^n) (hp:pc 64 u≠n):lowZ u<n∧u.testBit (lowZ u)=false∧∀ i,i<lowZ u→u.testBit i=true:=by
 have h64:u<18446744073709551616:=Nat.lt_of_lt_of_le hu (Nat.pow_le_pow_right (n:=2) (by decide) hn:2^n≤2^64)
 have hne:u≠2^n-1:=fun e=>hp (by rw [e];exact pc_ones 64 n hn)
 obtain ⟨j,hj,hjb⟩:∃ j,j<n∧u.testBit j=false:=by
  refine Classical.byContradiction fun hc=>hne ?_
  apply Nat.eq_of_testBit_eq
  intro i
  rw [Nat.testBit_two_pow_sub_one]
  by_cases hi:i<n
  ·rw [decide_eq_true hi]
   cases e:u.testBit i with
   | true=>rfl
   | false=>exact absurd ⟨i,hi,e⟩ hc
  ·rw [decide_eq_false hi]
   exact Nat.testBit_lt_two_pow (Nat.lt_of_lt_of_le hu (Nat.pow_le_pow_right (by decide) (by omega)))
 have hz:(18446744073709551616-1-u)≠0:=fun e=>by
  have:=low_bit h64 j
  rw [e,hjb,decide_eq_true (by omega)] at this
  simp at this
 have hlt:lowZ u<64:=ctz_lt hz (show 18446744073709551616-1-u<2^64 from Nat.lt_of_le_of_lt (Nat.sub_le _ _) (by decide))
 have hat:=ctz_at 64 (18446744073709551616-1-u) hlt
 have hlow:=ctz_low 64 (18446744073709551616-1-u)
 have hall:∀ i,i<lowZ u→u.testBit i=true:=fun i hi=>by
  have:=hlow i hi
  rw [low_bit h64,decide_eq_true (by omega)] at this
  simpa using this
 refine ⟨?_,?_,hall⟩
 ·rcases Nat.lt_or_ge (lowZ u) n with c | c
  ·exact c
  ·have:=hall j (by omega)
   rw [hjb] at this;cases this
 ·have h2:=hat
  rw [low_bit h64] at h2
  have:(decide (ctz 64 (18446744073709551616-1-u)<64)&&!u.testBit (ctz 64 (18446744073709551616-1-u)))=true:=h2
  simp only [Bool.and_eq_true,Bool.not_eq_true'] at this
  exact this.2
theorem low_first {u k:Nat} (hu:u<18446744073709551616) (hk:k<64) (hb:u.testBit k=false) (hall:∀ j,j<k→u.testBit j=true):lowZ u=k:=by
 have hz:(18446744073709551616-1-u)≠0:=fun e=>by
  have:=low_bit hu k
  rw [e,hb,decide_eq_true hk] at this
  simp at this
 have hlt:lowZ u<64:=ctz_lt hz (show 18446744073709551616-1-u<2^64 from Nat.lt_of_le_of_lt (Nat.sub_le _ _) (by decide))
 have hat:=ctz_at 64 (18446744073709551616-1-u) hlt
 have hlow:=ctz_low 64 (18446744073709551616-1-u)
 rw [low_bit hu] at hat
 have h1:(decide (lowZ u<64)&&!u.testBit (lowZ u))=true:=hat
 simp only [Bool.and_eq_true,Bool.not_eq_true'] at h1
 rcases Nat.lt_trichotomy (lowZ u) k with q | q | q
 ·rw [hall _ q] at h1;cases h1.2
 ·exact q
 ·have:=hlow k q
  rw [low_bit hu,decide_eq_true hk,hb] at this
  cases this
/-! Sums over blocks. -/
theorem sum_upd (g:Blk→Nat) (f:Blk→Blk) {l:List Blk} (hp:l.Pairwise fun s t=>s.a≠t.a) {b:Blk} (hb:b∈l):((l.map fun x=>if x.a=b.a then f x else x).map g).sum+g b=(l.map g).sum+g (f b):=by
 induction l with
 | nil=>simp at hb
 | cons x l ih =>
  rw [List.pairwise_cons] at hp
  simp only [List.map_cons,List.sum_cons]
  rcases List.mem_cons.1 hb with e | e
  ·subst e
   have:(l.map fun x=>if x.a=b.a then f x else x)=l:=by
    rw [List.map_congr_left (g:=id)]
    ·simp
    ·intro y hy;rw [if_neg (Ne.symm (hp.1 y hy))];rfl
   rw [this,if_pos rfl];omega
  ·have:=ih hp.2 e
   rw [if_neg (hp.1 b e)];omega
theorem sum_rem (g:Blk→Nat) {l:List Blk} (hp:l.Pairwise fun s t=>s.a≠t.a) {b:Blk} (hb:b∈l):((l.filter fun x=>x.a != b.a).map g).sum+g b=(l.map g).sum:=by
 induction l with
 | nil=>simp at hb
 | cons x l ih =>
  rw [List.pairwise_cons] at hp
  simp only [List.map_cons,List.sum_cons]
  rcases List.mem_cons.1 hb with e | e
  ·subst e
   have h1:(l.filter fun x=>x.a != b.a)=l:=by
    rw [List.filter_eq_self]
    intro y hy;simp;exact Ne.symm (hp.1 y hy)
   rw [List.filter_cons,if_neg (by simp),h1];omega
  ·have:=ih hp.2 e
   rw [List.filter_cons,if_pos (by simp;exact hp.1 b e)]
   simp only [List.map_cons,List.sum_cons];omega
variable {m:Cm}
theorem CInv.prw (I:CInv m):m.bl.Pairwise fun s t=>s.a≠t.a:=by
 have h1:=I.S.srt
 unfold Cm.L at h1
 rw [List.pairwise_map] at h1
 refine List.Pairwise.imp_of_mem (fun {x y} hx hy hxy=>?_) h1
 have:=I.bd hx
 have h2:x.a+x.k≤y.a:=hxy
 omega
theorem cells_upd (I:CInv m) {b:Blk} (hb:b∈m.bl) (u:Nat):(m.upd b.a (Blk.setU u)).cells+pc 64 b.u=m.cells+pc 64 u:=sum_upd (fun b=>pc 64 b.u) (Blk.setU u) I.prw hb
theorem words_upd (I:CInv m) {b:Blk} (hb:b∈m.bl) (u:Nat):(m.upd b.a (Blk.setU u)).words+pc 64 b.u*b.ws=m.words+pc 64 u*b.ws:=sum_upd (fun b=>pc 64 b.u*b.ws) (Blk.setU u) I.prw hb
theorem cells_updW (I:CInv m) {b:Blk} (hb:b∈m.bl) (w:Option Nat):(m.upd b.a (Blk.setW w)).cells=m.cells∧(m.upd b.a (Blk.setW w)).words=m.words:=by
 have h1:(m.upd b.a (Blk.setW w)).cells+pc 64 b.u=m.cells+pc 64 b.u:=sum_upd (fun b=>pc 64 b.u) (Blk.setW w) I.prw hb
 have h2:(m.upd b.a (Blk.setW w)).words+pc 64 b.u*b.ws=m.words+pc 64 b.u*b.ws:=sum_upd (fun b=>pc 64 b.u*b.ws) (Blk.setW w) I.prw hb
 omega
theorem cells_ins (b:Blk):(m.ins b).cells=pc 64 b.u+m.cells∧(m.ins b).words=pc 64 b.u*b.ws+m.words:=⟨insB_sum (fun b=>pc 64 b.u) m.bl b,insB_sum (fun b=>pc 64 b.u*b.ws) m.bl b⟩
theorem cells_ins0 (b:Blk) (h:b.u=0):(m.ins b).cells=m.cells∧(m.ins b).words=m.words:=by
 obtain ⟨h1,h2⟩:=cells_ins (m:=m) b
 rw [h1,h2,h,pc_z];omega
theorem cells_rem0 (I:CInv m) {b:Blk} (hb:b∈m.bl) (h:b.u=0):(m.rem b.a).cells=m.cells∧(m.rem b.a).words=m.words:=by
 have h1:(m.rem b.a).cells+pc 64 b.u=m.cells:=sum_rem (fun b=>pc 64 b.u) I.prw hb
 have h2:(m.rem b.a).words+pc 64 b.u*b.ws=m.words:=sum_rem (fun b=>pc 64 b.u*b.ws) I.prw hb
 rw [h,pc_z] at h1 h2
 omega
theorem sum_le {l:List Blk} (g:Blk→Nat) (B:Nat) (h:∀ b,b∈l→g b≤B):(l.map g).sum≤B*l.length:=by
 induction l with
 | nil=>simp
 | cons x l ih =>
  have h1:=h x List.mem_cons_self
  have h2:=ih fun b hb=>h b (List.mem_cons_of_mem _ hb)
  simp only [List.map_cons,List.sum_cons,List.length_cons,Nat.mul_add];omega
end Go.Proofs.YthillgheddpmhaaDoor.Pg
namespace Go.Proofs.YthillgheddpmhaaDoor.Pg
open Go Go.AM Go.Proofs.YthillgheddpmhaaDoor.AmGJ
open Nat (reduceAdd reduceLeDiff reduceEqDiff)
open Int (reduceToNat reduceEq reduceLE)
variable {h h':AHeap} {g g':CG} {ws:List Nat} {lv:List (List Sm)} {bs:List Nat} {m:Cm} {cn wn:Int}
def CellQ (h:AHeap) (g:CG) (m:Cm):Prop:=∃ ws lv bs,CellP h g ws lv bs m (m.cells:Int) (m.words:Int)
theorem CellP.q (R:CellP h g ws lv bs m cn wn) (h1:cn=(m.cells:Int)) (h2:wn=(m.words:Int)):CellQ h g m:=⟨ws,lv,bs,by rw [←h1,←h2];exact R⟩
def res2 (x e:Int):AVal:=.tup [.int .i64 x,.int .i64 e]
def Cm.alloc (m:Cm) (p w:Int):(Int×Int)×Cm :=
 if p<0∨(m.pr:Int)≤p∨w<1 then ((0,1),m)
 else if 1024<w then ((0,2),m)
 else if 64<w then match m.fit ((w.toNat+63) / 64) with
  | none=>((0,3),m)
  | some a=>(((a*64:Nat),0),(m.ins ⟨a,(w.toNat+63) / 64,-1,0,none⟩).upd a (Blk.setU 1))
 else match m.pick p.toNat (clsOf w.toNat) with
  | (none,m')=>((0,3),m')
  | (some a,m')=>match m'.get a with
   | some b=>(((a*64+lowZ b.u*b.ws:Nat),0),m'.upd a (Blk.setU (b.u ||| 2^lowZ b.u)))
   | none=>((0,0),m')
theorem pc1:pc 64 1=1:=by
 have:=pc_set 64 0 0 (by decide) (by simp)
 rw [pc_z] at this
 simpa using this
theorem CellP.len (R:CellP h g ws lv bs m cn wn):m.bl.length≤4096:=by
 have h1:=R.I.S.len
 have h2:=R.T.K.n2
 unfold Cm.L at h1
 rw [List.length_map] at h1
 omega
theorem CellP.bds (R:CellP h g ws lv bs m cn wn):m.cells≤262144∧m.words≤100000000000:=by
 have hl:=R.len
 have h1:=sum_le (l:=m.bl) (fun b=>pc 64 b.u) 64 fun b _=>pc_le' 64 _
 have h2:=sum_le (l:=m.bl) (fun b=>pc 64 b.u*b.ws) (64*262144) fun b hb=>by
  by_cases hc:b.c=-2
  ·rcases R.I.B b hb with ⟨_,e,_⟩ | ⟨e,_⟩ | ⟨c,_,e,_⟩
   ·rw [e,pc_z];omega
   ·omega
   ·omega
  ·exact Nat.mul_le_mul (pc_le' 64 _) (ws_bd R.I R.T.K.n2 hb hc).2
 unfold Cm.cells Cm.words
 omega
theorem pow64 {k:Nat} (hk:k<64):2^k<18446744073709551616:=(Nat.pow_lt_pow_right (by decide) hk:2^k<2^64)
theorem shl_one {h:AHeap} {k:Nat} (hk:k<64):binV h .shl (.int .u64 1) (.int .i64 (k:Int))=some (.int .u64 ((2^k:Nat):Int),h):=by
 rw [bin_shl h .u64 .i64 1 (k:Int) (by omega)]
 have e:min (k:Int).toNat IntKind.u64.bits=k:=by show min (k:Int).toNat 64=k;rw [Int.toNat_natCast];omega
 have e2:(1:Int)*2^k=((2^k:Nat):Int):=by rw [Int.one_mul];simp
 rw [e,e2,wrapN (pow64 hk)]
theorem pick2_cw (I:CInv m) {p c:Nat} (hc:c<16):(m.pick2 p c).2.cells=m.cells∧(m.pick2 p c).2.words=m.words:=by
 unfold Cm.pick2
 cases hs:m.spare c with
 | some b=>exact cells_updW I (spare_mem hs).1 _
 | none =>
  simp only
  cases hf:m.fit (pageT.getD c 0) with
  | none=>exact ⟨rfl,rfl⟩
  | some a =>
   have ht:=tabs c hc
   have hfa:=(fit_some (by omega) (fun q=>f_out m)).1 hf
   have I':CInv (m.ins ⟨a,pageT.getD c 0,c,0,none⟩):=I.ins (b:=⟨a,pageT.getD c 0,c,0,none⟩) (by show 1≤pageT.getD c 0;omega) hfa (.inr (.inr ⟨c,hc,rfl,rfl,Nat.two_pow_pos _⟩)) rfl
   have h1:=cells_updW I' (b:=⟨a,pageT.getD c 0,c,0,none⟩) (mem_insB.2 (.inl rfl)) (some p)
   have h2:=cells_ins0 (m:=m) ⟨a,pageT.getD c 0,c,0,none⟩ rfl
   exact ⟨h1.1.trans h2.1,h1.2.trans h2.2⟩
theorem pick_cw (I:CInv m) {p c:Nat} (hp:p<m.pr) (hc:c<16):(m.pick p c).2.cells=m.cells∧(m.pick p c).2.words=m.words:=by
 unfold Cm.pick
 cases hh:m.held p c with
 | none=>exact pick2_cw I hc
 | some b =>
  simp only
  obtain ⟨h1,h2,h3⟩:=held_mem hh
  split
  ·have I':CInv (m.upd b.a (Blk.setW none)):=I.setW h1 h2 fun q hq=>by cases hq
   have a1:=pick2_cw I' (p:=p) hc
   have a2:=cells_updW I h1 none
   exact ⟨a1.1.trans a2.1,a1.2.trans a2.2⟩
  ·exact ⟨rfl,rfl⟩
set_option maxHeartbeats 8000000 in
theorem allocC (T:TabR h) (Q0:CellQ h g m) (p w:Int):CallP AP 44 [.ptr g.c 0 0,.int .i64 p,.int .i64 w] h fun r h'=>∃ g',CFr h h' g g'∧CellQ h' g' (m.alloc p w).2∧r=res2 (m.alloc p w).1.1 (m.alloc p w).1.2:=by
 obtain ⟨ws,lv,bs,R⟩:=Q0
 refine callP (rfl:Tr.get AP 44=some A44) ?_
 generalize hQ:(fun (r:AVal) (h':AHeap)=>_)=Q
 have g1:=R.obj
 have lc:g.c<h.n:=R.lt (by rw [R.kc.1];decide)
 by_cases hbad:p<0∨(m.pr:Int)≤p∨w<1
 ·have ha:m.alloc p w=((0,1),m):=by unfold Cm.alloc;rw [if_pos hbad]
  rw [ha] at hQ
  rcases Int.lt_or_le p 0 with c | c
  ·have d1:decide (p<0)=true:=decide_eq_true c
   simp -implicitDefEqProofs (disch:=first|exact dz _|fail) only [↓AM.R0,AM.R1,AM.R2,reduceAdd,reduceLeDiff,reduceEqDiff,reduceToNat,Nat.reduceLT,↓reduceIte,reduceEq,Int.reduceLT,reduceLE,d1]
   subst hQ;exact ⟨g,CFr.refl h g,⟨ws,lv,bs,R⟩,rfl⟩
  ·have d1:decide (p<0)=false:=decide_eq_false (by omega)
   rcases Int.lt_or_le p m.pr with c2 | c2
   ·have d2:decide ((m.pr:Int)≤p)=false:=decide_eq_false (by omega)
    have d3:decide (w<1)=true:=decide_eq_true (by omega)
    simp -implicitDefEqProofs (disch:=first|exact dz _|fail) only [↓AM.R0,AM.R1,AM.R2,reduceAdd,reduceLeDiff,reduceEqDiff,reduceToNat,Nat.reduceLT,↓reduceIte,reduceEq,Int.reduceLT,reduceLE,d1,d2,d3,g1]
    subst hQ;exact ⟨g,CFr.refl h g,⟨ws,lv,bs,R⟩,rfl⟩
   ·have d2:decide ((m.pr:Int)≤p)=true:=decide_eq_true c2
    simp -implicitDefEqProofs (disch:=first|exact dz _|fail) only [↓AM.R0,AM.R1,AM.R2,reduceAdd,reduceLeDiff,reduceEqDiff,reduceToNat,Nat.reduceLT,↓reduceIte,reduceEq,Int.reduceLT,reduceLE,d1,d2,g1]
    subst hQ;exact ⟨g,CFr.refl h g,⟨ws,lv,bs,R⟩,rfl⟩
 have d1:decide (p<0)=false:=decide_eq_false (by omega)
 have d2:decide ((m.pr:Int)≤p)=false:=decide_eq_false (by omega)
 have d3:decide (w<1)=false:=decide_eq_false (by omega)
 by_cases h1024:1024<w
 ·have ha:m.alloc p w=((0,2),m):=by unfold Cm.alloc;rw [if_neg hbad,if_pos h1024]
  rw [ha] at hQ
  have d4:decide ((1024:Int)<w)=true:=decide_eq_true h1024
  simp -implicitDefEqProofs (disch:=first|exact dz _|fail) only [↓AM.R0,AM.R1,AM.R2,reduceAdd,reduceLeDiff,reduceEqDiff,reduceToNat,Nat.reduceLT,↓reduceIte,reduceEq,Int.reduceLT,reduceLE,d1,d2,d3,d4,g1]
  subst hQ;exact ⟨g,CFr.refl h g,⟨ws,lv,bs,R⟩,rfl⟩
 have d4:decide ((1024:Int)<w)=false:=decide_eq_false h1024
 obtain ⟨p,rfl⟩:∃ x:Nat,p=x:=⟨p.toNat,by omega⟩
 obtain ⟨w,rfl⟩:∃ x:Nat,w=x:=⟨w.toNat,by omega⟩
 have bds:=R.bds
 simp -implicitDefEqProofs (disch:=first|exact dz _|fail) only [↓AM.R0,AM.R1,AM.R2,reduceAdd,reduceLeDiff,reduceEqDiff,reduceToNat,Nat.reduceLT,↓reduceIte,reduceEq,Int.reduceLT,reduceLE,d1,d2,d3,d4,g1]
 by_cases h64:64<w
 ·have ha:m.alloc p w=match m.fit ((w+63) / 64) with
   | none=>((0,3),m)
   | some a=>(((a*64:Nat),0),(m.ins ⟨a,(w+63) / 64,-1,0,none⟩).upd a (Blk.setU 1)):=by
   unfold Cm.alloc;rw [if_neg hbad,if_neg h1024,if_pos (by omega),Int.toNat_natCast]
  rw [ha] at hQ
  refine AM.callI_of (ofC2 (w:=w) h64) ?_
  rintro r h2 ⟨rfl,rfl⟩
  have w1:IntKind.i64.wrap ((w:Int)+64)=((w+64:Nat):Int):=(wrap64 (by omega) (by omega)).trans (by omega)
  have w2:IntKind.i64.wrap (((w+64:Nat):Int)-1)=((w+63:Nat):Int):=(wrap64 (by omega) (by omega)).trans (by omega)
  have w3:((w+63:Nat):Int).tdiv 64=(((w+63) / 64:Nat):Int):=rfl
  have w4:IntKind.i64.wrap (((w+63) / 64:Nat):Int)=(((w+63) / 64:Nat):Int):=wrap64 (by omega) (by omega)
  have hk:1≤(w+63) / 64:=by omega
  generalize (w+63) / 64=k at *
  simp -implicitDefEqProofs (disch:=first|exact dz _|fail) only [↓AM.R0,AM.R1,AM.R2,reduceAdd,reduceLeDiff,reduceEqDiff,reduceToNat,Nat.reduceLT,↓reduceIte,reduceEq,Int.reduceLT,reduceLE,w1,w2,w3,w4]
  refine AM.callI_of (blockC T R (k:=k) (c:=-1) hk (.inl rfl)) ?_
  rintro r h4 ⟨ws4,lv4,⟨hft,F4,R4,rfl⟩ | ⟨a,i,hft,hfa,F4,R4,hi,rfl⟩⟩
  ·rw [hft] at hQ
   simp -implicitDefEqProofs (disch:=first|exact dz _|fail) only [↓AM.R0,AM.R1,AM.R2,reduceAdd,reduceLeDiff,reduceEqDiff,reduceToNat,Nat.reduceLT,↓reduceIte,reduceEq,Int.reduceLT,reduceLE]
   subst hQ
   exact ⟨g,F4,R4.q rfl rfl,rfl⟩
  ·rw [hft] at hQ
   have hbm:(⟨a,k,-1,0,none⟩:Blk)∈(m.ins ⟨a,k,-1,0,none⟩).bl:=mem_insB.2 (.inl rfl)
   have hcw:=cells_ins0 (m:=m) ⟨a,k,-1,0,none⟩ rfl
   have hm4p:(m.ins ⟨a,k,-1,0,none⟩).pr=m.pr:=rfl
   generalize hm4:m.ins ⟨a,k,-1,0,none⟩=m4 at *
   generalize hg4:g.put a i=g4 at *
   have hg4c:g4.c=g.c:=by rw [←hg4];rfl
   obtain ⟨b,hb⟩:∃ b:Blk,b=⟨a,k,-1,0,none⟩:=⟨_,rfl⟩
   have hba:a=b.a:=by rw [hb]
   have hbc:b.c=-1:=by rw [hb]
   have hbu:b.u=0:=by rw [hb]
   have hbk:b.k=k:=by rw [hb]
   rw [←hb] at hbm
   rw [←hi,hba]
   clear hb
   obtain ⟨gb,lb⟩:=R4.gb hbm (by omega)
   have I':CInv (m4.upd b.a (Blk.setU 1)):=R4.I.setU hbm (.inl ⟨hbc,by omega⟩)
   have R5:CellP (h4.set (g4.ι b.a) (.cells 0 false [.int .i64 (b.a:Int),.int .i64 (b.k:Int),.int .i64 (b.c+1),.int .i64 b.c,.int .u64 1,.bool b.w.isSome])) g4 _ _ _ (m4.upd b.a (Blk.setU 1)) _ _:=R4.setU hbm (by omega) I'
   have F5:=F4.set (i:=g4.ι b.a) (fun hq=>by have q:=R4.kb b hbm (by omega);have:=F4.K _ hq;omega) (.cells 0 false [.int .i64 (b.a:Int),.int .i64 (b.k:Int),.int .i64 (b.c+1),.int .i64 b.c,.int .u64 1,.bool b.w.isSome])
   simp -implicitDefEqProofs (disch:=first|exact dz _|fail) only [↓AM.R0,AM.R1,AM.R2,reduceAdd,reduceLeDiff,reduceEqDiff,reduceToNat,Nat.reduceLT,↓reduceIte,reduceEq,Int.reduceLT,reduceLE,gb]
   generalize h4.set (g4.ι b.a) _=h5 at *
   have hc5:=cells_upd R4.I hbm 1
   have hw5:=words_upd R4.I hbm 1
   rw [hbu,pc_z,pc1] at hc5 hw5
   rw [←hg4c]
   refine AM.callI_of (countB R5 (b:=Blk.setU 1 b) (mem_upd.2 (.inl ⟨b,hbm,rfl,rfl⟩)) (by show b.c≠-2;omega) (k:=0) (by decide) ⟨by omega,by omega⟩ ⟨by omega,by omega⟩) ?_
   rintro r h6 ⟨F6,R6,rfl⟩
   simp -implicitDefEqProofs (disch:=first|exact dz _|fail) only [↓AM.R0,AM.R1,AM.R2,reduceAdd,reduceLeDiff,reduceEqDiff,reduceToNat,Nat.reduceLT,↓reduceIte,reduceEq,Int.reduceLT,reduceLE]
   subst hQ
   refine ⟨g4,F5.trans F6,?_,?_⟩
   ·show CellQ h6 g4 ((m.ins ⟨a,k,-1,0,none⟩).upd a (Blk.setU 1))
    rw [hm4,hba]
    refine R6.q (by omega) ?_
    show (m.words:Int)+(b.ws:Nat)=_
    omega
   ·show _=res2 ((a*64:Nat):Int) 0
    rw [hba];rfl
 ·have hp:p<m.pr:=by omega
  obtain ⟨hc16,_⟩:=cls_ok w (by omega) (by omega)
  have ha:m.alloc p w=match m.pick p (clsOf w) with
   | (none,m')=>((0,3),m')
   | (some a,m')=>match m'.get a with
    | some b=>(((a*64+lowZ b.u*b.ws:Nat),0),m'.upd a (Blk.setU (b.u ||| 2^lowZ b.u)))
    | none=>((0,0),m'):=by
   unfold Cm.alloc;rw [if_neg hbad,if_neg h1024,if_neg (by omega),Int.toNat_natCast,Int.toNat_natCast]
  rw [ha] at hQ
  refine AM.callI_of (ofC (w:=(w:Int)) (by omega) (by omega)) ?_
  rintro r h2 ⟨f2,rfl⟩
  rw [Int.toNat_natCast]
  have R2:=R.keep f2
  have F2:=(CFr.refl h g).tmp f2
  have T2:=F2.tabR R.K0 T
  have g2:=R2.obj
  have hpw:=pick_cw R.I hp hc16
  simp -implicitDefEqProofs (disch:=first|exact dz _|fail) only [↓AM.R0,AM.R1,AM.R2,reduceAdd,reduceLeDiff,reduceEqDiff,reduceToNat,Nat.reduceLT,↓reduceIte,reduceEq,Int.reduceLT,reduceLE]
  refine AM.callI_of (takeC T2 R2 (p:=p) (c:=clsOf w) hp hc16) ?_
  rintro r h3 ⟨g3,ws3,lv3,bs3,F3,R3,⟨hn,rfl⟩ | ⟨b,hs,hbm,hbc,hbw,hbf,rfl⟩⟩
  ·simp -implicitDefEqProofs (disch:=first|exact dz _|fail) only [↓AM.R0,AM.R1,AM.R2,reduceAdd,reduceLeDiff,reduceEqDiff,reduceToNat,Nat.reduceLT,↓reduceIte,reduceEq,Int.reduceLT,reduceLE]
   subst hQ
   have e:m.pick p (clsOf w)=(none,(m.pick p (clsOf w)).2):=by rw [←hn]
   rw [e]
   exact ⟨g3,F2.trans F3,R3.q (by rw [hpw.1]) (by rw [hpw.2]),rfl⟩
  ·have e:m.pick p (clsOf w)=(some b.a,(m.pick p (clsOf w)).2):=by rw [←hs]
   rw [e] at hQ
   generalize (m.pick p (clsOf w)).2=m3 at *
   have hget:=R3.I.get hbm
   simp only [hget] at hQ
   have F23:=F2.trans F3
   have hgc:g3.c=g.c:=F3.c
   obtain ⟨gb,lb⟩:=R3.gb hbm (by omega)
   have T3:=F23.tabR R.K0 T
   have hu:=R3.I.u64 hbm
   obtain ⟨d,hd1,hd2,hd3,hd4⟩:=R3.I.cls hbm (by omega)
   have ht:=tabs d hd1
   have hnf:pc 64 b.u≠cellT.getD d 0:=fun e2=>by
    unfold Blk.full at hbf
    rw [hd2,Int.toNat_natCast,decide_eq_true e2] at hbf;cases hbf
   obtain ⟨z1,z2,z3⟩:=lowZ_ok (by omega) hd4 hnf
   have hK:2^lowZ b.u<18446744073709551616:=pow64 (by omega)
   have hu2:b.u ||| 2^lowZ b.u<2^cellT.getD d 0:=Nat.or_lt_two_pow hd4 (Nat.pow_lt_pow_right (by decide) z1)
   have I':CInv (m3.upd b.a (Blk.setU (b.u ||| 2^lowZ b.u))):=R3.I.setU hbm (.inr ⟨d,hd1,hd2,hu2⟩)
   have R5:CellP (h3.set (g3.ι b.a) (.cells 0 false [.int .i64 (b.a:Int),.int .i64 (b.k:Int),.int .i64 (b.c+1),.int .i64 b.c,.int .u64 ((b.u ||| 2^lowZ b.u:Nat):Int),.bool b.w.isSome])) g3 _ _ _ (m3.upd b.a (Blk.setU (b.u ||| 2^lowZ b.u))) _ _:=R3.setU hbm (by omega) I'
   have F5:=F23.set (i:=g3.ι b.a) (fun hq=>by have q:=R3.kb b hbm (by omega);have:=F23.K _ hq;omega) (.cells 0 false [.int .i64 (b.a:Int),.int .i64 (b.k:Int),.int .i64 (b.c+1),.int .i64 b.c,.int .u64 ((b.u ||| 2^lowZ b.u:Nat):Int),.bool b.w.isSome])
   have cm:=cm_int (h:=h3) hu
   simp -implicitDefEqProofs (disch:=first|exact dz _|fail) only [↓AM.R0,AM.R1,AM.R2,reduceAdd,reduceLeDiff,reduceEqDiff,reduceToNat,Nat.reduceLT,↓reduceIte,reduceEq,Int.reduceLT,reduceLE,gb,a_compl,cm]
   refine AM.callI_of (tz T3 (w:=18446744073709551616-1-b.u) (by omega)) ?_
   rintro r h4 ⟨rfl,rfl⟩
   rw [show ctz 64 (18446744073709551616-1-b.u)=lowZ b.u from rfl]
   have e1:=shl_one (h:=h4) (k:=lowZ b.u) (by omega)
   have e2:=or_nat (h:=h4) hu hK
   simp -implicitDefEqProofs (disch:=first|exact dz _|fail) only [↓AM.R0,AM.R1,AM.R2,reduceAdd,reduceLeDiff,reduceEqDiff,reduceToNat,Nat.reduceLT,↓reduceIte,reduceEq,Int.reduceLT,reduceLE,gb,e1,e2]
   generalize h4.set (g3.ι b.a) _=h5 at *
   have hc5:=cells_upd R3.I hbm (b.u ||| 2^lowZ b.u)
   have hw5:=words_upd R3.I hbm (b.u ||| 2^lowZ b.u)
   rw [pc_set 64 _ _ (by omega) z2] at hc5 hw5
   rw [Nat.add_mul,Nat.one_mul] at hw5
   rw [←hgc]
   refine AM.callI_of (countB R5 (b:=Blk.setU (b.u ||| 2^lowZ b.u) b) (mem_upd.2 (.inl ⟨b,hbm,rfl,rfl⟩)) (by show b.c≠-2;omega) (k:=lowZ b.u) (by omega) ⟨by omega,by omega⟩ ⟨by omega,by omega⟩) ?_
   rintro r h6 ⟨F6,R6,rfl⟩
   simp -implicitDefEqProofs (disch:=first|exact dz _|fail) only [↓AM.R0,AM.R1,AM.R2,reduceAdd,reduceLeDiff,reduceEqDiff,reduceToNat,Nat.reduceLT,↓reduceIte,reduceEq,Int.reduceLT,reduceLE]
   subst hQ
   refine ⟨g3,F5.trans F6,R6.q (by omega) ?_,rfl⟩
   show (m.words:Int)+(b.ws:Nat)=_
   omega
end Go.Proofs.YthillgheddpmhaaDoor.Pg
namespace Go.Proofs.YthillgheddpmhaaDoor.Pg
open Go Go.AM Go.Proofs.YthillgheddpmhaaDoor.AmGJ
open Nat (reduceAdd reduceLeDiff reduceEqDiff)
open Int (reduceToNat reduceEq reduceLE)
variable {h h':AHeap} {g g':CG} {ws:List Nat} {lv:List (List Sm)} {bs:List Nat} {m:Cm} {cn wn:Int}
theorem drop_cw (I:CInv m) {b:Blk} (hb:b∈m.bl):(m.drop b).cells=m.cells∧(m.drop b).words=m.words:=by
 unfold Cm.drop
 split
 ·rename_i h;exact cells_rem0 I hb h.1
 ·exact ⟨rfl,rfl⟩
def Cm.free (m:Cm) (x:Int):Int×Cm:=match m.cell x with
 | none=>(4,m)
 | some (b,k)=>if x=((b.a*64+k*b.ws:Nat):Int) then (0,(m.upd b.a (Blk.setU (clr b.u k))).drop (Blk.setU (clr b.u k) b)) else (4,m)
set_option maxHeartbeats 8000000 in
theorem freeC (T:TabR h) (Q0:CellQ h g m) (x:Int) (hx:-9223372036854775808≤x∧x≤9223372036854775807):CallP AP 46 [.ptr g.c 0 0,.int .i64 x] h fun r h'=>CFr h h' g g∧CellQ h' g (m.free x).2∧r=.int .i64 (m.free x).1:=by
 obtain ⟨ws,lv,bs,R⟩:=Q0
 refine callP (rfl:Tr.get AP 46=some A46) ?_
 generalize hQ:(fun (r:AVal) (h':AHeap)=>_)=Q
 have bds:=R.bds
 simp -implicitDefEqProofs (disch:=first|exact dz _|fail) only [↓AM.R0,AM.R1,AM.R2,reduceAdd,reduceLeDiff,reduceEqDiff,reduceToNat,Nat.reduceLT,↓reduceIte,reduceEq,Int.reduceLT,reduceLE]
 refine AM.callI_of (findB R x hx) ?_
 rintro r h2 ⟨f2,rfl⟩
 have R2:=R.keep f2
 have F2:=(CFr.refl h g).tmp f2
 cases hf:m.find x with
 | none =>
  have hfr:m.free x=(4,m):=by unfold Cm.free Cm.cell;rw [hf]
  simp -implicitDefEqProofs (disch:=first|exact dz _|fail) only [↓AM.R0,AM.R1,AM.R2,reduceAdd,reduceLeDiff,reduceEqDiff,reduceToNat,Nat.reduceLT,↓reduceIte,reduceEq,Int.reduceLT,reduceLE,encFd]
  subst hQ
  rw [hfr]
  exact ⟨F2,R2.q rfl rfl,rfl⟩
 | some pk =>
  obtain ⟨b,k⟩:=pk
  obtain ⟨hb,hc,n,rfl,n1,n2,n3⟩:=find_some hf
  obtain ⟨gb,lb⟩:=R2.gb hb hc
  have hbd:=R.I.bd hb
  have hn:=R.T.K.n2
  have hws:=ws_bd R.I hn hb hc
  cases ht:b.u.testBit k with
  | false =>
   have hfr:m.free n=(4,m):=by unfold Cm.free Cm.cell;rw [hf];simp only [ht,Bool.false_eq_true,if_false]
   simp -implicitDefEqProofs (disch:=first|exact dz _|fail) only [↓AM.R0,AM.R1,AM.R2,reduceAdd,reduceLeDiff,reduceEqDiff,reduceToNat,Nat.reduceLT,↓reduceIte,reduceEq,Int.reduceLT,reduceLE,encFd,ht]
   subst hQ
   rw [hfr]
   exact ⟨F2,R2.q rfl rfl,rfl⟩
  | true =>
   have hkw:k*b.ws≤n-b.a*64:=by rw [n3];exact Nat.div_mul_le_self _ _
   have hu:=R.I.u64 hb
   have hk64:k<64:=by
    rcases Nat.lt_or_ge k 64 with q | q
    ·exact q
    ·rw [Nat.testBit_lt_two_pow (Nat.lt_of_lt_of_le hu (Nat.pow_le_pow_right (n:=2) (by decide) q:2^64≤2^k))] at ht;cases ht
   have w1:IntKind.i64.wrap ((b.a:Int)*64)=((b.a*64:Nat):Int):=(wrap64 (by omega) (by omega)).trans (by omega)
   have w2:IntKind.i64.wrap ((k:Int)*((b.ws:Nat):Int))=((k*b.ws:Nat):Int):=by rw [←Int.natCast_mul];exact wrap64 (by omega) (by omega)
   have w3:IntKind.i64.wrap (((b.a*64:Nat):Int)+((k*b.ws:Nat):Int))=((b.a*64+k*b.ws:Nat):Int):=(wrap64 (by omega) (by omega)).trans (by omega)
   simp -implicitDefEqProofs (disch:=first|exact dz _|fail) only [↓AM.R0,AM.R1,AM.R2,reduceAdd,reduceLeDiff,reduceEqDiff,reduceToNat,Nat.reduceLT,↓reduceIte,reduceEq,Int.reduceLT,reduceLE,encFd,ht,gb,w1]
   refine AM.trCall_of (wordsB R2 hb hc) ?_
   rintro r h3 ⟨f3,rfl⟩
   have R3:=R2.keep f3
   have F3:=F2.tmp f3
   obtain ⟨gb3,lb3⟩:=R3.gb hb hc
   simp -implicitDefEqProofs (disch:=first|exact dz _|fail) only [↓AM.R0,AM.R1,AM.R2,reduceAdd,reduceLeDiff,reduceEqDiff,reduceToNat,Nat.reduceLT,↓reduceIte,reduceEq,Int.reduceLT,reduceLE,gb3,gb,w1,w2,w3]
   refine AM.cI_bool (fun hd=>?_) (fun hd=>?_)
   ·have hd:n≠b.a*64+k*b.ws:=by simp at hd;omega
    have hfr:m.free n=(4,m):=by
     unfold Cm.free Cm.cell;rw [hf];simp only [ht,if_true]
     rw [if_neg (by omega)]
    simp -implicitDefEqProofs (disch:=first|exact dz _|fail) only [↓AM.R0,AM.R1,AM.R2,reduceAdd,reduceLeDiff,reduceEqDiff,reduceToNat,Nat.reduceLT,↓reduceIte,reduceEq,Int.reduceLT,reduceLE]
    subst hQ
    rw [hfr]
    exact ⟨F3,R3.q rfl rfl,rfl⟩
   ·have hd:n=b.a*64+k*b.ws:=by simp at hd;omega
    have hfr:m.free n=(0,(m.upd b.a (Blk.setU (clr b.u k))).drop (Blk.setU (clr b.u k) b)):=by
     unfold Cm.free Cm.cell;rw [hf];simp only [ht,if_true]
     rw [if_pos (by omega)]
    have hK:=pow64 hk64
    have I':CInv (m.upd b.a (Blk.setU (clr b.u k))):=R.I.setU hb (by
     rcases R.I.B b hb with ⟨e,_⟩ | ⟨e,e2,_⟩ | ⟨c,e1,e2,_,e3⟩
     ·exact absurd e hc
     ·exact .inl ⟨e,Nat.le_trans (clr_le _ _) e2⟩
     ·exact .inr ⟨c,e1,e2,Nat.lt_of_le_of_lt (clr_le _ _) e3⟩)
    have R4:CellP (h3.set (g.ι b.a) (.cells 0 false [.int .i64 (b.a:Int),.int .i64 (b.k:Int),.int .i64 (b.c+1),.int .i64 b.c,.int .u64 ((clr b.u k:Nat):Int),.bool b.w.isSome])) g _ _ _ (m.upd b.a (Blk.setU (clr b.u k))) _ _:=R3.setU hb hc I'
    have F4:=F3.set (i:=g.ι b.a) (fun hq=>by rw [R.kb b hb hc];decide) (.cells 0 false [.int .i64 (b.a:Int),.int .i64 (b.k:Int),.int .i64 (b.c+1),.int .i64 b.c,.int .u64 ((clr b.u k:Nat):Int),.bool b.w.isSome])
    have e1:=shl_one (h:=h3) hk64
    have e2:binV h3 .andNot (.int .u64 (b.u:Int)) (.int .u64 ((2^k:Nat):Int))=some (.int .u64 ((clr b.u k:Nat):Int),h3):=an_int hu hK
    have hc4:=cells_upd R.I hb (clr b.u k)
    have hw4:=words_upd R.I hb (clr b.u k)
    rw [←pc_clr hu hk64 ht] at hc4 hw4
    rw [Nat.add_mul,Nat.one_mul] at hw4
    have hm4:(Blk.setU (clr b.u k) b)∈(m.upd b.a (Blk.setU (clr b.u k))).bl:=mem_upd.2 (.inl ⟨b,hb,rfl,rfl⟩)
    have hdc:=drop_cw I' hm4
    rw [hfr] at hQ
    have g3:=R3.obj
    have ncb:g.c≠g.ι b.a:=fun e=>by have:=R.kc.1;have:=R.kb b hb hc;rw [←e] at this;omega
    have lc3:g.c<h3.n:=R3.lt (by rw [R.kc.1];decide)
    have w5:IntKind.i64.wrap ((m.cells:Int)-1)=(m.cells:Int)-1:=wrap64 (by omega) (by omega)
    simp -implicitDefEqProofs (disch:=first|exact dz _|fail) only [↓AM.R0,AM.R1,AM.R2,reduceAdd,reduceLeDiff,reduceEqDiff,reduceToNat,Nat.reduceLT,↓reduceIte,reduceEq,Int.reduceLT,reduceLE,gb3,e1,e2,g3,w5]
    generalize h3.set (g.ι b.a) (.cells 0 false [.int .i64 (b.a:Int),.int .i64 (b.k:Int),.int .i64 (b.c+1),.int .i64 b.c,.int .u64 ((clr b.u k:Nat):Int),.bool b.w.isSome])=h4 at *
    have R5:=R4.cnt ((m.cells:Int)-1) (m.words:Int)
    have F5:=F4.set (i:=g.c) (fun _=>by rw [R.kc.1];decide) (.cells 0 false [.ptr g.t 0 0,.map g.mi,.sl g.hi g.hg 0 m.pr 1,.int .i64 ((m.cells:Int)-1),.int .i64 (m.words:Int)])
    have hpr:(m.upd b.a (Blk.setU (clr b.u k))).pr=m.pr:=rfl
    rw [hpr] at R5
    generalize m.upd b.a (Blk.setU (clr b.u k))=m4 at *
    generalize h4.set g.c (.cells 0 false [.ptr g.t 0 0,.map g.mi,.sl g.hi g.hg 0 m.pr 1,.int .i64 ((m.cells:Int)-1),.int .i64 (m.words:Int)])=h5 at *
    refine AM.trCall_of (wordsB R5 (b:=Blk.setU (clr b.u k) b) hm4 hc) ?_
    rintro r h6 ⟨f6,rfl⟩
    have R6:=R5.keep f6
    have F6:=F5.tmp f6
    have g6:=R6.obj
    have lc6:g.c<h6.n:=R6.lt (by rw [R.kc.1];decide)
    have hwe:(Blk.setU (clr b.u k) b).ws=b.ws:=rfl
    have w6:IntKind.i64.wrap ((m.words:Int)-((b.ws:Nat):Int))=(m.words:Int)-((b.ws:Nat):Int):=wrap64 (by omega) (by omega)
    have rd:=f6.get g.c (by exact R5.lt (by rw [R.kc.1];decide)) (by simp)
    rw [hpr] at g6
    simp -implicitDefEqProofs (disch:=first|exact dz _|fail) only [↓AM.R0,AM.R1,AM.R2,reduceAdd,reduceLeDiff,reduceEqDiff,reduceToNat,Nat.reduceLT,↓reduceIte,reduceEq,Int.reduceLT,reduceLE,g6,R5.obj,hpr,rd,hwe,w6]
    have R7:=R6.cnt ((m.cells:Int)-1) ((m.words:Int)-((b.ws:Nat):Int))
    have F7:=F6.set (i:=g.c) (fun _=>by rw [R.kc.1];decide) (.cells 0 false [.ptr g.t 0 0,.map g.mi,.sl g.hi g.hg 0 m.pr 1,.int .i64 ((m.cells:Int)-1),.int .i64 ((m.words:Int)-((b.ws:Nat):Int))])
    rw [hpr] at R7
    generalize h6.set g.c (.cells 0 false [.ptr g.t 0 0,.map g.mi,.sl g.hi g.hg 0 m.pr 1,.int .i64 ((m.cells:Int)-1),.int .i64 ((m.words:Int)-((b.ws:Nat):Int))])=h7 at *
    have T7:=F7.tabR R.K0 T
    refine AM.callI_of (dropC T7 R7 (b:=Blk.setU (clr b.u k) b) hm4 hc) ?_
    rintro r h8 ⟨ws8,lv8,bs8,F8,R8⟩
    simp -implicitDefEqProofs (disch:=first|exact dz _|fail) only [↓AM.R0,AM.R1,AM.R2,reduceAdd,reduceLeDiff,reduceEqDiff,reduceToNat,Nat.reduceLT,↓reduceIte,reduceEq,Int.reduceLT,reduceLE]
    subst hQ
    exact ⟨F7.trans F8,R8.q (by rw [hdc.1];omega) (by rw [hdc.2];omega),rfl⟩
theorem countsC (Q0:CellQ h g m):CallP AP 47 [.ptr g.c 0 0] h fun r h'=>HFrame h h' [] []∧r=.tup [.int .i64 (m.cells:Nat),.int .i64 (m.words:Nat),.int .i64 (freeN m.f m.n:Nat)]:=by
 obtain ⟨ws,lv,bs,R⟩:=Q0
 refine callP (rfl:Tr.get AP 47=some A47) ?_
 generalize hQ:(fun (r:AVal) (h':AHeap)=>_)=Q
 have g1:=R.obj
 have lc:g.c<h.n:=R.lt (by rw [R.kc.1];decide)
 simp -implicitDefEqProofs (disch:=first|exact dz _|fail) only [↓AM.R0,AM.R1,AM.R2,reduceAdd,reduceLeDiff,reduceEqDiff,reduceToNat,Nat.reduceLT,↓reduceIte,reduceEq,Int.reduceLT,reduceLE,g1]
 refine AM.callI_of (countsS R.T) ?_
 rintro r h2 ⟨f2,x,_,rfl⟩
 have g2:=(R.keep f2).obj
 have lc2:g.c<h2.n:=Nat.lt_of_lt_of_le lc f2.n
 rw [R.f]
 simp -implicitDefEqProofs (disch:=first|exact dz _|fail) only [↓AM.R0,AM.R1,AM.R2,reduceAdd,reduceLeDiff,reduceEqDiff,reduceToNat,Nat.reduceLT,↓reduceIte,reduceEq,Int.reduceLT,reduceLE,g2]
 subst hQ
 exact ⟨f2,rfl⟩
theorem usedC (Q0:CellQ h g m) (x:Int):CallP AP 48 [.ptr g.c 0 0,.int .i64 x] h fun r h'=>HFrame h h' [] []∧r=.bool (findF m.L x).isSome:=by
 obtain ⟨ws,lv,bs,R⟩:=Q0
 refine callP (rfl:Tr.get AP 48=some A48) ?_
 generalize hQ:(fun (r:AVal) (h':AHeap)=>_)=Q
 have g1:=R.obj
 have lc:g.c<h.n:=R.lt (by rw [R.kc.1];decide)
 simp -implicitDefEqProofs (disch:=first|exact dz _|fail) only [↓AM.R0,AM.R1,AM.R2,reduceAdd,reduceLeDiff,reduceEqDiff,reduceToNat,Nat.reduceLT,↓reduceIte,reduceEq,Int.reduceLT,reduceLE,g1]
 refine AM.callI_of (findW R.T x) ?_
 rintro r h2 ⟨f2,rfl⟩
 cases hf:findF m.L x with
 | none =>
  have ez:encT zSp=[.int .i64 0,.int .i64 0,.int .i64 0]:=rfl
  simp -implicitDefEqProofs (disch:=first|exact dz _|fail) only [↓AM.R0,AM.R1,AM.R2,reduceAdd,reduceLeDiff,reduceEqDiff,reduceToNat,Nat.reduceLT,↓reduceIte,reduceEq,Int.reduceLT,reduceLE,encF,ez]
  subst hQ
  exact ⟨(f2.pushTmp _).setTmp f2.n _,by rw [hf];rfl⟩
 | some s =>
  simp -implicitDefEqProofs (disch:=first|exact dz _|fail) only [↓AM.R0,AM.R1,AM.R2,reduceAdd,reduceLeDiff,reduceEqDiff,reduceToNat,Nat.reduceLT,↓reduceIte,reduceEq,Int.reduceLT,reduceLE,encF,encT]
  subst hQ
  exact ⟨(f2.pushTmp _).setTmp f2.n _,by rw [hf];rfl⟩
def Cm.pages (m:Cm) (k:Int):(Int×Int)×Cm:=if k<1 then ((0,1),m) else match m.fit k.toNat with
 | none=>((0,3),m)
 | some a=>(((a:Nat),0),m.ins ⟨a,k.toNat,-2,0,none⟩)
set_option maxHeartbeats 4000000 in
theorem pagesQ (T:TabR h) (Q0:CellQ h g m) (k:Int):CallP AP 56 [.ptr g.c 0 0,.int .i64 k] h fun r h'=>CFr h h' g g∧CellQ h' g (m.pages k).2∧r=res2 (m.pages k).1.1 (m.pages k).1.2:=by
 obtain ⟨ws,lv,bs,R⟩:=Q0
 refine callP (rfl:Tr.get AP 56=some A56) ?_
 generalize hQ:(fun (r:AVal) (h':AHeap)=>_)=Q
 have g1:=R.obj
 have lc:g.c<h.n:=R.lt (by rw [R.kc.1];decide)
 simp -implicitDefEqProofs (disch:=first|exact dz _|fail) only [↓AM.R0,AM.R1,AM.R2,reduceAdd,reduceLeDiff,reduceEqDiff,reduceToNat,Nat.reduceLT,↓reduceIte,reduceEq,Int.reduceLT,reduceLE,g1]
 refine AM.callI_of (allocS T R.T R.n0 k 0) ?_
 rintro r h2 ⟨ws2,lv2,L2,f2,T2,v,A1,A2⟩
 have F2:CFr h h2 g g:=(CFr.refl h g).left f2 R.tabF
 rw [R.f] at A1
 have ft:∀ o,HFrame h2 ((h2.push (.cells 0 false [.int .i64 0,.int .i64 0,.int .i64 0])).set h2.n o) [] []:=fun o=>((HFrame.refl (h:=h2) (F:=[]) (by simp)).pushTmp (.cells 0 false [.int .i64 0,.int .i64 0,.int .i64 0])).setTmp (i:=h2.n) (Nat.le_refl _) o
 have ez:encT zSp=[.int .i64 0,.int .i64 0,.int .i64 0]:=rfl
 rcases A2 with ⟨e,e0,rfl,rfl,rfl⟩ | ⟨a,rfl,k1,rfl,rfl⟩
 ·have hno:m.pages k=((0,e),m)∧fw ws2=m.f:=by
   unfold Cm.pages
   rcases A1 with ⟨q,qf,qe⟩ | ⟨q0,q,qf,qe⟩ | ⟨_,x,_,_,qe⟩
   ·simp at qe;rw [if_pos q,qe];exact ⟨rfl,qf⟩
   ·simp at qe
    rw [if_neg (by omega)]
    have:m.fit k.toNat=none:=(fit_none (by omega) (fun q=>f_out m)).2 q
    rw [this,qe];exact ⟨rfl,qf⟩
   ·simp at qe;omega
  have R2:=R.tab R.I rfl rfl f2 T2 (fun _ _=>Iff.rfl)
  simp -implicitDefEqProofs (disch:=first|exact dz _|fail) only [↓AM.R0,AM.R1,AM.R2,reduceAdd,reduceLeDiff,reduceEqDiff,reduceToNat,Nat.reduceLT,↓reduceIte,reduceEq,Int.reduceLT,reduceLE,ez]
  subst hQ
  rw [hno.1]
  exact ⟨F2.tmp (ft _),(R2.keep (ft _)).q rfl rfl,rfl⟩
 ·obtain ⟨k,rfl⟩:∃ x:Nat,k=x:=⟨k.toNat,by omega⟩
  rw [Int.toNat_natCast] at T2
  obtain ⟨fa,hg⟩:FirstAt m.f k a∧(∀ q:Nat,fw ws2 q=if a≤q∧q<a+k then false else m.f q):=by
   rcases A1 with ⟨q,_⟩ | ⟨_,q,qf,qe⟩ | ⟨_,x,q1,q2,qe⟩
   ·omega
   ·simp at qe
   ·simp at qe
    obtain rfl:a=x:=by omega
    rw [Int.toNat_natCast] at q1 q2;exact ⟨q1,q2⟩
  have hk1:1≤k:=by omega
  have hpg:m.pages k=((((a:Nat):Int),0),m.ins ⟨a,k,-2,0,none⟩):=by
   unfold Cm.pages
   rw [if_neg (by omega),Int.toNat_natCast]
   have:m.fit k=some a:=(fit_some hk1 (fun q=>f_out m)).2 fa
   rw [this]
  have I':CInv (m.ins ⟨a,k,-2,0,none⟩):=R.I.ins hk1 fa (.inl ⟨rfl,rfl,rfl⟩) rfl
  have hsp:(m.ins ⟨a,k,-2,0,none⟩).L=insF m.L ⟨a,k,0⟩:=by rw [ins_sp];rfl
  have R2:=R.tab (m':=m.ins ⟨a,k,-2,0,none⟩) I' rfl rfl f2 (by rw [hsp];exact T2) (fun b hb=>by
   constructor
   ·intro hm
    rcases mem_insB.1 hm with rfl | e
    ·exact absurd rfl hb
    ·exact e
   ·intro hm;exact mem_insB.2 (.inr hm))
  have hcw:=cells_ins0 (m:=m) ⟨a,k,-2,0,none⟩ rfl
  simp -implicitDefEqProofs (disch:=first|exact dz _|fail) only [↓AM.R0,AM.R1,AM.R2,reduceAdd,reduceLeDiff,reduceEqDiff,reduceToNat,Nat.reduceLT,↓reduceIte,reduceEq,Int.reduceLT,reduceLE,encT]
  subst hQ
  rw [hpg]
  exact ⟨F2.tmp (ft _),(R2.keep (ft _)).q (by rw [hcw.1]) (by rw [hcw.2]),rfl⟩
def Cm.give (m:Cm) (x:Int):Int×Cm:=match m.bl.find? (fun b=>decide ((b.a:Int)=x)&&decide (b.c=-2)) with
 | none=>(4,m)
 | some b=>(0,m.rem b.a)
end Go.Proofs.YthillgheddpmhaaDoor.Pg
namespace Go.Proofs.YthillgheddpmhaaDoor.Pg
open Go Go.AM Go.Proofs.YthillgheddpmhaaDoor.AmGJ
open Nat (reduceAdd reduceLeDiff reduceEqDiff)
open Int (reduceToNat reduceEq reduceLE)
variable {h h':AHeap} {g g':CG} {ws:List Nat} {lv:List (List Sm)} {bs:List Nat} {m:Cm} {cn wn:Int}
theorem give_some {x:Int} {b:Blk} (I:CInv m) (hb:b∈m.bl) (hx:(b.a:Int)=x) (hc:b.c=-2):m.give x=(0,m.rem b.a):=by
 unfold Cm.give
 cases e:m.bl.find? (fun b=>decide ((b.a:Int)=x)&&decide (b.c=-2)) with
 | none =>
  rw [List.find?_eq_none] at e
  have:=e b hb
  simp [hx,hc] at this
 | some b' =>
  have h3:=List.find?_some e
  have h4:=List.mem_of_find?_eq_some e
  simp only [Bool.and_eq_true,decide_eq_true_eq] at h3
  obtain rfl:=I.same h4 hb (by omega)
  rfl
theorem give_none {x:Int} (h:∀ b,b∈m.bl→¬ ((b.a:Int)=x∧b.c=-2)):m.give x=(4,m):=by
 unfold Cm.give
 have:m.bl.find? (fun b=>decide ((b.a:Int)=x)&&decide (b.c=-2))=none:=by
  rw [List.find?_eq_none];intro b hb;have:=h b hb;simp only [Bool.and_eq_true,decide_eq_true_eq];exact this
 rw [this]
set_option maxHeartbeats 4000000 in
theorem giveC (T:TabR h) (Q0:CellQ h g m) (x:Int):CallP AP 50 [.ptr g.c 0 0,.int .i64 x] h fun r h'=>CFr h h' g g∧CellQ h' g (m.give x).2∧r=.int .i64 (m.give x).1:=by
 obtain ⟨ws,lv,bs,R⟩:=Q0
 refine callP (rfl:Tr.get AP 50=some A50) ?_
 generalize hQ:(fun (r:AVal) (h':AHeap)=>_)=Q
 have g1:=R.obj
 have lc:g.c<h.n:=R.lt (by rw [R.kc.1];decide)
 simp -implicitDefEqProofs (disch:=first|exact dz _|fail) only [↓AM.R0,AM.R1,AM.R2,reduceAdd,reduceLeDiff,reduceEqDiff,reduceToNat,Nat.reduceLT,↓reduceIte,reduceEq,Int.reduceLT,reduceLE,g1]
 refine AM.callI_of (findW R.T x) ?_
 rintro r h2 ⟨f2,rfl⟩
 have R2:=R.keep f2
 have g2:=R2.obj
 have gm2:=R2.map
 have lc2:g.c<h2.n:=R2.lt (by rw [R.kc.1];decide)
 have lm2:g.mi<h2.n:=R2.lt (by rw [R.kc.2.1];decide)
 have ft:∀ o,HFrame h2 ((h2.push (.cells 0 false [.int .i64 0,.int .i64 0,.int .i64 0])).set h2.n o) [] []:=fun o=>((HFrame.refl (h:=h2) (F:=[]) (by simp)).pushTmp (.cells 0 false [.int .i64 0,.int .i64 0,.int .i64 0])).setTmp (i:=h2.n) (Nat.le_refl _) o
 have ez:encT zSp=[.int .i64 0,.int .i64 0,.int .i64 0]:=rfl
 have F2:=(CFr.refl h g).tmp f2
 cases hf:findF m.L x with
 | none =>
  have hg:m.give x=(4,m):=give_none fun b hb ⟨e1,e2⟩=>by
   have hbd:=R.I.bd hb
   have:=R.I.S.find (s:=b.sp) (List.mem_map.2 ⟨b,hb,rfl⟩) (q:=b.a) (Nat.le_refl _) (by show b.a<b.a+b.k;omega)
   rw [e1,hf] at this;cases this
  simp -implicitDefEqProofs (disch:=first|exact dz _|fail) only [↓AM.R0,AM.R1,AM.R2,reduceAdd,reduceLeDiff,reduceEqDiff,reduceToNat,Nat.reduceLT,↓reduceIte,reduceEq,Int.reduceLT,reduceLE,encF,ez]
  subst hQ
  rw [hg]
  exact ⟨F2.tmp (ft _),(R2.keep (ft _)).q rfl rfl,rfl⟩
 | some s =>
  obtain ⟨h1,h2',h3⟩:=find_mem hf
  obtain ⟨b,hb,rfl⟩:=List.mem_map.1 h1
  have ea:b.sp.a=b.a:=rfl
  by_cases hx:(b.a:Int)=x
  rotate_left
  ·have hg:m.give x=(4,m):=give_none fun y hy ⟨e1,e2⟩=>by
    have hbd:=R.I.bd hy
    have:=R.I.S.find (s:=y.sp) (List.mem_map.2 ⟨y,hy,rfl⟩) (q:=y.a) (Nat.le_refl _) (by show y.a<y.a+y.k;omega)
    rw [e1,hf] at this
    simp only [Option.some.injEq] at this
    have:=congrArg Sp.a this
    have e3:b.a=y.a:=this
    omega
   have d1:decide ((b.a:Int)=x)=false:=decide_eq_false hx
   simp -implicitDefEqProofs (disch:=first|exact dz _|fail) only [↓AM.R0,AM.R1,AM.R2,reduceAdd,reduceLeDiff,reduceEqDiff,reduceToNat,Nat.reduceLT,↓reduceIte,reduceEq,Int.reduceLT,reduceLE,encF,encT,ea,d1]
   subst hQ
   rw [hg]
   exact ⟨F2.tmp (ft _),(R2.keep (ft _)).q rfl rfl,rfl⟩
  subst hx
  have d1:decide ((b.a:Int)=(b.a:Int))=true:=decide_eq_true rfl
  have R3:=R2.keep (ft (.cells 0 false [.int .i64 (b.a:Int),.int .i64 (b.sp.k:Int),.int .i64 b.sp.t]))
  have gm3:=R3.map
  have F3:=F2.tmp (ft (.cells 0 false [.int .i64 (b.a:Int),.int .i64 (b.sp.k:Int),.int .i64 b.sp.t]))
  by_cases hc:b.c=-2
  ·have lk:=lk_out gm3 R.bn (bm_out R hb hc) .nilp
   have T3:=F3.tabR R.K0 T
   simp -implicitDefEqProofs (disch:=first|exact dz _|fail) only [↓AM.R0,AM.R1,AM.R2,reduceAdd,reduceLeDiff,reduceEqDiff,reduceToNat,Nat.reduceLT,↓reduceIte,reduceEq,Int.reduceLT,reduceLE,encF,encT,ea,d1,g2,a_lookup,lk]
   generalize (h2.push (.cells 0 false [.int .i64 0,.int .i64 0,.int .i64 0])).set h2.n (.cells 0 false [.int .i64 (b.a:Int),.int .i64 (b.sp.k:Int),.int .i64 b.sp.t])=h3 at *
   refine AM.callI_of (freeS T3 R3.T R.n0 (b.a:Int)) ?_
   rintro r h4 ⟨ws4,lv4,L4,f4,T4,A4⟩
   obtain ⟨_,rfl,rfl⟩:=FreeS.yes (s:=b.sp) R.T.I h1 A4
   have hw:b.u=0∧b.w=none:=by
    rcases R.I.B b hb with ⟨_,e1,e2⟩ | ⟨e,_⟩ | ⟨c,_,e,_⟩
    ·exact ⟨e1,e2⟩
    ·omega
    ·omega
   have R4:=R3.tab (m':=m.rem b.a) (R.I.rem hb) rfl rfl f4 (by rw [rem_sp];exact T4) (fun y hy=>by
    unfold Cm.rem
    simp only [List.mem_filter,bne_iff_ne,ne_eq]
    constructor
    ·exact fun q=>q.1
    ·intro q;exact ⟨q,fun e=>hy (by rw [R.I.same q hb e];exact hc)⟩)
   have hcw:=cells_rem0 R.I hb hw.1
   simp -implicitDefEqProofs (disch:=first|exact dz _|fail) only [↓AM.R0,AM.R1,AM.R2,reduceAdd,reduceLeDiff,reduceEqDiff,reduceToNat,Nat.reduceLT,↓reduceIte,reduceEq,Int.reduceLT,reduceLE]
   subst hQ
   rw [give_some R.I hb rfl hc]
   exact ⟨F3.left f4 R.tabF,R4.q (by rw [hcw.1]) (by rw [hcw.2]),rfl⟩
  ·have lk:=lk_in gm3 R.bn (bm_in R hb hc) .nilp
   have hg:m.give (b.a:Int)=(4,m):=give_none fun y hy ⟨e1,e2⟩=>by
    have:=R.I.same hy hb (by omega)
    rw [this] at e2;exact hc e2
   simp -implicitDefEqProofs (disch:=first|exact dz _|fail) only [↓AM.R0,AM.R1,AM.R2,reduceAdd,reduceLeDiff,reduceEqDiff,reduceToNat,Nat.reduceLT,↓reduceIte,reduceEq,Int.reduceLT,reduceLE,encF,encT,ea,d1,g2,a_lookup,lk]
   subst hQ
   rw [hg]
   exact ⟨F3,R3.q rfl rfl,rfl⟩
def Cm.fl1 (m:Cm) (p c:Nat):Cm:=match m.held p c with
 | none=>m
 | some b=>(m.upd b.a (Blk.setW none)).drop (Blk.setW none b)
def Cm.flN (m:Cm) (p:Nat):Nat→Cm
 | 0=>m
 | i+1=>(m.flN p i).fl1 p i
def Cm.flush (m:Cm) (p:Int):Int×Cm:=if p<0∨(m.pr:Int)≤p then (1,m) else (0,m.flN p.toNat 16)
theorem fl1_cw (I:CInv m) (p c:Nat):(m.fl1 p c).cells=m.cells∧(m.fl1 p c).words=m.words:=by
 unfold Cm.fl1
 cases hh:m.held p c with
 | none=>exact ⟨rfl,rfl⟩
 | some b =>
  obtain ⟨h1,h2,h3⟩:=held_mem hh
  have I':CInv (m.upd b.a (Blk.setW none)):=I.setW h1 h2 fun q hq=>by cases hq
  have a1:=drop_cw I' (b:=Blk.setW none b) (mem_upd.2 (.inl ⟨b,h1,rfl,rfl⟩))
  have a2:=cells_updW I h1 none
  exact ⟨a1.1.trans a2.1,a1.2.trans a2.2⟩
theorem fl1_pr (m:Cm) (p c:Nat):(m.fl1 p c).pr=m.pr:=by
 unfold Cm.fl1 Cm.drop
 cases m.held p c with
 | none=>rfl
 | some b=>simp only;split<;>rfl
theorem flN_pr (m:Cm) (p:Nat):∀ i,(m.flN p i).pr=m.pr
 | 0=>rfl
 | i+1=>by rw [Cm.flN,fl1_pr,flN_pr m p i]
set_option maxHeartbeats 8000000 in
theorem flushC (T:TabR h) (Q0:CellQ h g m) (p:Int):CallP AP 49 [.ptr g.c 0 0,.int .i64 p] h fun r h'=>CFr h h' g g∧CellQ h' g (m.flush p).2∧r=.int .i64 (m.flush p).1:=by
 have Q1:=Q0
 obtain ⟨ws,lv,bs,R⟩:=Q0
 refine callP (rfl:Tr.get AP 49=some A49) ?_
 generalize hQ:(fun (r:AVal) (h':AHeap)=>_)=Q
 have g1:=R.obj
 have gh:=R.hold
 have lc:g.c<h.n:=R.lt (by rw [R.kc.1];decide)
 have lh:g.hi<h.n:=R.lt (by rw [R.kc.2.2];decide)
 by_cases hbad:p<0∨(m.pr:Int)≤p
 ·have ha:m.flush p=(1,m):=by unfold Cm.flush;rw [if_pos hbad]
  rcases Int.lt_or_le p 0 with c | c
  ·have d1:decide (p<0)=true:=decide_eq_true c
   simp -implicitDefEqProofs (disch:=first|exact dz _|fail) only [↓AM.R0,AM.R1,AM.R2,reduceAdd,reduceLeDiff,reduceEqDiff,reduceToNat,Nat.reduceLT,↓reduceIte,reduceEq,Int.reduceLT,reduceLE,d1]
   subst hQ;rw [ha];exact ⟨CFr.refl h g,Q1,rfl⟩
  ·have d1:decide (p<0)=false:=decide_eq_false (by omega)
   have d2:decide ((m.pr:Int)≤p)=true:=decide_eq_true (by omega)
   simp -implicitDefEqProofs (disch:=first|exact dz _|fail) only [↓AM.R0,AM.R1,AM.R2,reduceAdd,reduceLeDiff,reduceEqDiff,reduceToNat,Nat.reduceLT,↓reduceIte,reduceEq,Int.reduceLT,reduceLE,d1,d2,g1]
   subst hQ;rw [ha];exact ⟨CFr.refl h g,Q1,rfl⟩
 have d1:decide (p<0)=false:=decide_eq_false (by omega)
 have d2:decide ((m.pr:Int)≤p)=false:=decide_eq_false (by omega)
 have ha:m.flush p=(0,m.flN p.toNat 16):=by unfold Cm.flush;rw [if_neg hbad]
 rw [ha] at hQ
 obtain ⟨p,rfl⟩:∃ x:Nat,p=x:=⟨p.toNat,by omega⟩
 rw [Int.toNat_natCast] at hQ
 have hp:p<m.pr:=by omega
 have hat:=hold_at g m hp
 have x1:=ix1 gh (len:=m.pr) (i:=p) hp
 simp -implicitDefEqProofs (disch:=first|exact dz _|fail) only [↓AM.R0,AM.R1,AM.R2,reduceAdd,reduceLeDiff,reduceEqDiff,reduceToNat,Nat.reduceLT,↓reduceIte,reduceEq,Int.reduceLT,reduceLE,d1,d2,g1,gh,x1,hat]
 refine AM.loopI_of (fun k e h'=>∃ i:Nat,k+i=16∧e.val 0=.ptr g.c 0 0∧e.val 1=.int .i64 (p:Int)∧e.val 26=.sl (g.ρ p) 0 0 16 1∧e.val 27=.int .i64 16∧e.val 28=.int .i64 (i:Int)∧CFr h h' g g∧CellQ h' g (m.flN p i)) 16 ?_ ?_
 ·refine ⟨0,by omega,?_,?_,?_,?_,?_,CFr.refl h g,Q1⟩<;>(simp -implicitDefEqProofs (disch:=first|exact dz _|fail) only [↓AM.R0,AM.R1,AM.R2,reduceAdd,reduceLeDiff,reduceEqDiff,reduceToNat,Nat.reduceLT,↓reduceIte,reduceEq,Int.reduceLT,reduceLE])<;>rfl
 ·clear Q1 R g1 gh lc lh hat x1 d1 d2 ha
  rintro k e h1 ⟨c,hk,y0,y1,y26,y27,y28,F1,ws1,lv1,bs1,R1⟩
  have T1:=F1.tabR R1.K0 T
  have hpr:=flN_pr m p c
  have hstep:m.flN p (c+1)=(m.flN p c).fl1 p c:=rfl
  generalize hm1:m.flN p c=m1 at *
  simp -implicitDefEqProofs (disch:=first|exact dz _|fail) only [↓AM.R0,AM.R1,AM.R2,reduceAdd,reduceLeDiff,reduceEqDiff,reduceToNat,Nat.reduceLT,↓reduceIte,reduceEq,Int.reduceLT,reduceLE,y27,y28]
  refine AM.cI_bool (fun hb=>?_) (fun hb=>?_)
  rotate_left
  ·have hb:¬ c<16:=by simp only [decide_eq_false_iff_not] at hb;omega
   obtain rfl:c=16:=by omega
   simp -implicitDefEqProofs (disch:=first|exact dz _|fail) only [↓AM.R0,AM.R1,AM.R2,reduceAdd,reduceLeDiff,reduceEqDiff,reduceToNat,Nat.reduceLT,↓reduceIte,reduceEq,Int.reduceLT,reduceLE]
   subst hQ
   rw [hm1]
   exact ⟨F1,⟨ws1,lv1,bs1,R1⟩,rfl⟩
  have hc:c<16:=by simp only [decide_eq_true_eq] at hb;omega
  have hp:p<m1.pr:=by rw [hpr];exact hp
  have gr:=R1.row p hp
  have lr:g.ρ p<h1.n:=R1.lt (by rw [R1.kr p hp];decide)
  have x2:=ix1 gr (len:=16) (i:=c) hc
  have ra:=row_at g m1 p hc
  have w1:IntKind.i64.wrap ((c:Int)+1)=((c+1:Nat):Int):=(wrap64 (by omega) (by omega)).trans (by omega)
  cases hh:m1.held p c with
  | none =>
   have hnv:hv g.ι m1 p c=.nilp:=by unfold hv;rw [hh]
   rw [hnv] at ra
   have hf1:m1.fl1 p c=m1:=by unfold Cm.fl1;rw [hh]
   simp -implicitDefEqProofs (disch:=first|exact dz _|fail) only [↓AM.R0,AM.R1,AM.R2,reduceAdd,reduceLeDiff,reduceEqDiff,reduceToNat,Nat.reduceLT,↓reduceIte,reduceEq,Int.reduceLT,reduceLE,y0,y1,y26,y27,y28,gr,x2,ra,w1]
   refine ⟨k-1,by omega,c+1,by omega,rfl,F1,?_⟩
   rw [hstep,hf1];exact ⟨ws1,lv1,bs1,R1⟩
  | some b =>
   obtain ⟨hbm,hbc,hbw⟩:=held_mem hh
   have hnv:hv g.ι m1 p c=.ptr (g.ι b.a) 0 0:=by unfold hv;rw [hh]
   rw [hnv] at ra
   simp -implicitDefEqProofs (disch:=first|exact dz _|fail) only [↓AM.R0,AM.R1,AM.R2,reduceAdd,reduceLeDiff,reduceEqDiff,reduceToNat,Nat.reduceLT,↓reduceIte,reduceEq,Int.reduceLT,reduceLE,y0,y1,y26,y27,y28,gr,x2,ra]
   have gcS:=R1.obj
   have ghS:=R1.hold
   have grS:=R1.row p hp
   have haS:=hold_at g m1 (p:=p) hp
   have raS:=row_at g m1 p hc
   have lcS:g.c<h1.n:=R1.lt (by rw [R1.kc.1];decide)
   have lhS:g.hi<h1.n:=R1.lt (by rw [R1.kc.2.2];decide)
   have lrS:g.ρ p<h1.n:=R1.lt (by rw [R1.kr p hp];decide)
   obtain ⟨gbS,lbS⟩:=R1.gb hbm (by omega:b.c≠-2)
   have neS:g.ρ p≠g.ι b.a:=fun e=>by have h1:=R1.kr p hp;have h2:=R1.kb b hbm (by omega);rw [e] at h1;omega
   have nhS:g.hi≠g.ι b.a:=fun e=>by have h1:=R1.kc.2.2;have h2:=R1.kb b hbm (by omega);rw [e] at h1;omega
   have ncS:g.c≠g.ι b.a:=fun e=>by have h1:=R1.kc.1;have h2:=R1.kb b hbm (by omega);rw [e] at h1;omega
   have x1S:=ix1 ghS (len:=m1.pr) (i:=p) hp
   have grS2:(h1.set (g.ι b.a) (.cells 0 false [.int .i64 (b.a:Int),.int .i64 (b.k:Int),.int .i64 (b.c+1),.int .i64 b.c,.int .u64 (b.u:Int),.bool false])).get (g.ρ p)=.cells 0 false (rowV g m1 p):=by rw [AHeap.get_set_ne _ _ neS];exact grS
   have x2S:=ix1 grS2 (len:=16) (i:=c) hc
   have rlS:c+1≤(rowV g m1 p).length:=by rw [row_len];omega
   obtain ⟨IS,RS0⟩:=R1.setW (w:=none) hbm hbc hc hp (.inl ⟨hbw,rfl⟩)
   have RS:CellP ((h1.set (g.ι b.a) (.cells 0 false [.int .i64 (b.a:Int),.int .i64 (b.k:Int),.int .i64 (b.c+1),.int .i64 b.c,.int .u64 (b.u:Int),.bool false])).set (g.ρ p) (.cells 0 false ((rowV g m1 p).take c++[.nilp]++(rowV g m1 p).drop (c+1)))) g _ _ _ (m1.upd b.a (Blk.setW (none))) _ _:=RS0
   have FS:=((F1).set (i:=g.ι b.a) (fun _=>by rw [R1.kb b hbm (by omega)];decide) (.cells 0 false [.int .i64 (b.a:Int),.int .i64 (b.k:Int),.int .i64 (b.c+1),.int .i64 b.c,.int .u64 (b.u:Int),.bool false])).set (i:=g.ρ p) (fun _=>by rw [R1.kr p hp];decide) (.cells 0 false ((rowV g m1 p).take c++[.nilp]++(rowV g m1 p).drop (c+1)))
   simp -implicitDefEqProofs (disch:=first|exact dz _|fail) only [↓AM.R0,AM.R1,AM.R2,reduceAdd,reduceLeDiff,reduceEqDiff,reduceToNat,Nat.reduceLT,↓reduceIte,reduceEq,Int.reduceLT,reduceLE,y0,y1,y26,y27,y28,gcS,ghS,grS,haS,gbS,x1S,x2S,rlS]
   clear RS0
   generalize ((h1.set (g.ι b.a) _).set (g.ρ p) _)=h2 at *
   have hbm2:Blk.setW none b∈(m1.upd b.a (Blk.setW none)).bl:=mem_upd.2 (.inl ⟨b,hbm,rfl,rfl⟩)
   have T2:=FS.tabR R1.K0 T
   have hcw:=fl1_cw R1.I p c
   have hf1:m1.fl1 p c=(m1.upd b.a (Blk.setW none)).drop (Blk.setW none b):=by unfold Cm.fl1;rw [hh]
   refine AM.callI_of (dropC T2 RS (b:=Blk.setW none b) hbm2 (by show b.c≠-2;omega)) ?_
   rintro r h3 ⟨ws3,lv3,bs3,F3,R3⟩
   simp -implicitDefEqProofs (disch:=first|exact dz _|fail) only [↓AM.R0,AM.R1,AM.R2,reduceAdd,reduceLeDiff,reduceEqDiff,reduceToNat,Nat.reduceLT,↓reduceIte,reduceEq,Int.reduceLT,reduceLE,y0,y1,y26,y27,y28,w1]
   refine ⟨k-1,by omega,c+1,by omega,rfl,FS.trans F3,?_⟩
   rw [hstep]
   rw [←hf1] at R3
   exact R3.q (by rw [hcw.1]) (by rw [hcw.2])
end Go.Proofs.YthillgheddpmhaaDoor.Pg
namespace Go.Proofs.YthillgheddpmhaaDoor.Pg
open Go Go.AM Go.Proofs.YthillgheddpmhaaDoor.AmGJ
open Nat (reduceAdd reduceLeDiff reduceEqDiff)
open Int (reduceToNat reduceEq reduceLE)
theorem cells_map (i:Nat):(AVal.map i).cells=[.map i]:=rfl
theorem cell_map (i:Nat):(AVal.map i).cell=true:=rfl
theorem ms16 (h:AHeap):msV h 1 8 [.nilp] (.int .i64 16)=some (.sl h.n 0 0 16 1,h.push (.cells 0 false (List.replicate 16 .nilp))):=rfl
def Cm.zero (n p:Nat):Cm:=⟨n,p,[]⟩
theorem zeroI_ {n p:Nat}:CInv (Cm.zero n p) :=
 ⟨SInv.nil fun q hq=>by unfold Cm.f Cm.zero;simp;exact hq,fun b hb=>by simp [Cm.zero] at hb,fun b b' p hb=>by simp [Cm.zero] at hb,fun b p hb=>by simp [Cm.zero] at hb⟩
def OffZ (v:AVal):Prop:=v=.nils∨∃ id g n e,v=.sl id g 0 n e
theorem app_off {h h':AHeap} {esz b:Nat} {x y v:AVal} (e:h.app esz b x y=some (v,h')) (hx:OffZ x):OffZ v:=by
 unfold AHeap.app at e
 cases he:h.elems esz y with
 | none=>rw [he] at e;cases e
 | some p =>
  obtain ⟨m,ys⟩:=p
  rw [he] at e
  simp only [Option.bind_some] at e
  split at e
  ·split at e
   ·cases e;exact .inl rfl
   ·split at e
    ·cases e;exact .inr ⟨_,_,_,_,rfl⟩
    ·cases e
  ·split at e
   ·split at e
    ·cases e;exact hx
    ·cases e
   ·split at e
    ·split at e
     ·split at e
      ·cases e;exact .inr ⟨_,_,_,_,rfl⟩
      ·cases e
     ·cases e
    ·cases e
  ·cases e
theorem wpOp_off {h:AHeap} {esz b:Nat} {x y:AVal} {k:AVal→AHeap→Prop} (hx:OffZ x) (w:AM.wpOp (h.app esz b x y) fun v h'=>OffZ v→k v h'):AM.wpOp (h.app esz b x y) k:=by
 cases e:h.app esz b x y with
 | none=>rw [e] at w;exact w
 | some p=>rw [e] at w;exact w (app_off e hx)
theorem getD_mem {l:List Nat} {i:Nat} (h:i<l.length):l.getD i 0∈l:=by
 rw [List.getD_eq_getElem?_getD,List.getElem?_eq_getElem h];exact List.getElem_mem h
theorem getD_inj {l:List Nat} (hn:l.Nodup) {i j:Nat} (hi:i<l.length) (hj:j<l.length) (e:l.getD i 0=l.getD j 0):i=j:=by
 rw [List.getD_eq_getElem?_getD,List.getElem?_eq_getElem hi,List.getD_eq_getElem?_getD,List.getElem?_eq_getElem hj] at e
 exact (List.getElem_inj hn).1 e
def encR' (j:Nat):List AVal:=[.sl j 0 0 16 1]
theorem range_getD:∀ l:List Nat,(List.range l.length).map (fun i=>AVal.sl (l.getD i 0) 0 0 16 1)=l.flatMap encR'
 | []=>rfl
 | a::l=>by
  rw [List.length_cons,List.range_succ_eq_map,List.map_cons,List.map_map,List.flatMap_cons]
  have:=range_getD l
  rw [←this];rfl
def encR (j:Nat):List AVal:=[.sl j 0 0 16 1]
set_option maxHeartbeats 8000000 in
theorem newC {h:AHeap} (T:TabR h) (n p:Int):CallP AP 42 [.int .i64 n,.int .i64 p] h fun r h'=>(¬ (1≤p∧p≤8∧1≤n∧n≤4096)∧HFrame h h' [] []∧r=.tup [.nilp,.int .i64 1]) ∨
  (1≤p∧p≤8∧1≤n∧n≤4096∧∃ g,HFrame h h' [] []∧(∀ j,g.K j≠0→h.n≤j)∧CellQ h' g (Cm.zero n.toNat p.toNat)∧r=.tup [.ptr g.c 0 0,.int .i64 0]):=by
 refine callP (rfl:Tr.get AP 42=some A42) ?_
 generalize hQ:(fun (r:AVal) (h':AHeap)=>_)=Q
 rcases Int.lt_or_le p 1 with c1 | c1
 ·have d1:decide (p<1)=true:=decide_eq_true c1
  simp -implicitDefEqProofs (disch:=first|exact dz _|fail) only [↓AM.R0,AM.R1,AM.R2,reduceAdd,reduceLeDiff,reduceEqDiff,reduceToNat,Nat.reduceLT,↓reduceIte,reduceEq,Int.reduceLT,reduceLE,d1]
  subst hQ;exact .inl ⟨by omega,HFrame.refl (by simp),rfl⟩
 have d1:decide (p<1)=false:=decide_eq_false (by omega)
 rcases Int.lt_or_le 8 p with c2 | c2
 ·have d2:decide ((8:Int)<p)=true:=decide_eq_true c2
  simp -implicitDefEqProofs (disch:=first|exact dz _|fail) only [↓AM.R0,AM.R1,AM.R2,reduceAdd,reduceLeDiff,reduceEqDiff,reduceToNat,Nat.reduceLT,↓reduceIte,reduceEq,Int.reduceLT,reduceLE,d1,d2]
  subst hQ;exact .inl ⟨by omega,HFrame.refl (by simp),rfl⟩
 have d2:decide ((8:Int)<p)=false:=decide_eq_false (by omega)
 simp -implicitDefEqProofs (disch:=first|exact dz _|fail) only [↓AM.R0,AM.R1,AM.R2,reduceAdd,reduceLeDiff,reduceEqDiff,reduceToNat,Nat.reduceLT,↓reduceIte,reduceEq,Int.reduceLT,reduceLE,d1,d2]
 refine AM.callI_of (newS T n) ?_
 rintro r h1 (⟨c3,f1,rfl⟩ | ⟨n1,n2,t,so,oo,q,ws,lv,f1,R,hf,rfl⟩)
 ·simp -implicitDefEqProofs (disch:=first|exact dz _|fail) only [↓AM.R0,AM.R1,AM.R2,reduceAdd,reduceLeDiff,reduceEqDiff,reduceToNat,Nat.reduceLT,↓reduceIte,reduceEq,Int.reduceLT,reduceLE]
  subst hQ;exact .inl ⟨by omega,f1,rfl⟩
 obtain ⟨p,rfl⟩:∃ x:Nat,p=x:=⟨p.toNat,by omega⟩
 obtain ⟨n,rfl⟩:∃ x:Nat,n=x:=⟨n.toNat,by omega⟩
 rw [Int.toNat_natCast] at R hf hQ
 rw [Int.toNat_natCast] at hQ
 simp -implicitDefEqProofs (disch:=first|exact dz _|fail) only [↓AM.R0,AM.R1,AM.R2,reduceAdd,reduceLeDiff,reduceEqDiff,reduceToNat,Nat.reduceLT,↓reduceIte,reduceEq,Int.reduceLT,reduceLE,a_mkMap,cells_map,cell_map]
 have F2:HFrame h ((h1.push (.map [])).push (.cells 0 false [.ptr t 0 0,.map h1.n,.nils,.int .i64 0,.int .i64 0])) [] []:=((HFrame.non f1).pushTmp _).pushTmp _
 have fR:HFrame h1 ((h1.push (.map [])).push (.cells 0 false [.ptr t 0 0,.map h1.n,.nils,.int .i64 0,.int .i64 0])) [] []:=((HFrame.refl (h:=h1) (F:=[]) (by simp)).pushTmp _).pushTmp _
 have R2:=R.keep fR
 have gm:((h1.push (.map [])).push (.cells 0 false [.ptr t 0 0,.map h1.n,.nils,.int .i64 0,.int .i64 0])).get h1.n=.map []:=by rw [AHeap.get_push_ne _ _ (by simp),AHeap.get_push_same]
 have gc:((h1.push (.map [])).push (.cells 0 false [.ptr t 0 0,.map h1.n,.nils,.int .i64 0,.int .i64 0])).get (h1.n+1)=.cells 0 false [.ptr t 0 0,.map h1.n,.nils,.int .i64 0,.int .i64 0]:=AHeap.get_push_same _ _
 have n3:((h1.push (.map [])).push (.cells 0 false [.ptr t 0 0,.map h1.n,.nils,.int .i64 0,.int .i64 0])).n=h1.n+2:=by simp
 have hnew:∀ j,j∈q.F++[t,so,oo]→h.n≤j∧j<h1.n:=fun j hj=>by
  refine ⟨?_,R.flt j hj⟩
  rcases f1.new j hj with e | e
  ·simp at e
  ·exact e
 have hn1:=f1.n
 generalize (h1.push (.map [])).push (.cells 0 false [.ptr t 0 0,.map h1.n,.nils,.int .i64 0,.int .i64 0])=h3 at *
 refine AM.loopI_of (fun k e h'=>∃ (i:Nat) (rs:List Nat) (sv:AVal) (G:List Nat),k+i=p∧rs.length=i∧e.val 8=.ptr (h1.n+1) 0 0∧e.val 27=.int .i64 (p:Int)∧e.val 28=.int .i64 (i:Int)∧HFrame h h' [] []∧HFrame h3 h' [h1.n+1] [h1.n+1] ∧
  h'.get (h1.n+1)=.cells 0 false [.ptr t 0 0,.map h1.n,sv,.int .i64 0,.int .i64 0]∧SlOf h' 1 encR sv rs G∧OffZ sv∧(∀ j,j∈G→h3.n≤j)∧rs.Nodup∧(∀ j,j∈rs→h3.n≤j∧j<h'.n∧j ∉ G∧h'.get j=.cells 0 false (List.replicate 16 .nilp))) p ?_ ?_
 ·refine ⟨0,[],.nils,[],by omega,rfl,?_,?_,?_,F2,HFrame.refl (by simp;omega),gc,SlOf.nil,.inl rfl,by simp,List.nodup_nil,by simp⟩<;>(simp -implicitDefEqProofs (disch:=first|exact dz _|fail) only [↓AM.R0,AM.R1,AM.R2,reduceAdd,reduceLeDiff,reduceEqDiff,reduceToNat,Nat.reduceLT,↓reduceIte,reduceEq,Int.reduceLT,reduceLE])<;>rfl
 rintro k e h' ⟨i,rs,sv,G,hk,hrs,y8,y27,y28,F4,f4,gc4,so4,hoff,hG,hnd,hrow⟩
 have hn4:=f4.n
 simp -implicitDefEqProofs (disch:=first|exact dz _|fail) only [↓AM.R0,AM.R1,AM.R2,reduceAdd,reduceLeDiff,reduceEqDiff,reduceToNat,Nat.reduceLT,↓reduceIte,reduceEq,Int.reduceLT,reduceLE,y27,y28]
 refine AM.cI_bool (fun hb=>?_) (fun hb=>?_)
 ·have hi:i<p:=by simp only [decide_eq_true_eq] at hb;omega
  have lc4:h1.n+1<h'.n:=by omega
  have w1:IntKind.i64.wrap ((i:Int)+1)=((i+1:Nat):Int):=(wrap64 (by omega) (by omega)).trans (by omega)
  simp -implicitDefEqProofs (disch:=first|exact dz _|fail) only [↓AM.R0,AM.R1,AM.R2,reduceAdd,reduceLeDiff,reduceEqDiff,reduceToNat,Nat.reduceLT,↓reduceIte,reduceEq,Int.reduceLT,reduceLE,y8,gc4]
  refine AM.trCall_of countC ?_
  rintro r h5 ⟨f5,rfl⟩
  have m16:=ms16 h5
  have gc5:=(f5.get _ lc4 (by simp)).trans gc4
  have so5:=so4.frame f5.n fun j hj=>f5.get j (so4.lt j hj) (by simp)
  have hn5:=f5.n
  have f6:HFrame h5 (h5.push (.cells 0 false (List.replicate 16 .nilp))) [] []:=(HFrame.refl (h:=h5) (F:=[]) (by simp)).pushTmp _
  have g6:(h5.push (.cells 0 false (List.replicate 16 .nilp))).get h5.n=.cells 0 false (List.replicate 16 .nilp):=AHeap.get_push_same _ _
  have n6:(h5.push (.cells 0 false (List.replicate 16 .nilp))).n=h5.n+1:=by simp
  have so6:=so5.frame f6.n fun j hj=>f6.get j (so5.lt j hj) (by simp)
  have lc5:h1.n+1<h5.n:=by omega
  have gc6:=(f6.get _ lc5 (by simp)).trans gc5
  simp -implicitDefEqProofs (disch:=first|exact dz _|fail) only [↓AM.R0,AM.R1,AM.R2,reduceAdd,reduceLeDiff,reduceEqDiff,reduceToNat,Nat.reduceLT,↓reduceIte,reduceEq,Int.reduceLT,reduceLE,m16,gc5]
  generalize h5.push (.cells 0 false (List.replicate 16 .nilp))=h6 at *
  rw [←n6]
  have hbeq:sv.beq sv=true:=by rcases so4 with ⟨a,_⟩ | ⟨id,g',off,vs,a,_⟩<;>rw [a]<;>simp [AVal.beq]
  refine AM.trOp_of (wpOp_off hoff (SlOf.app1 so6 (fun _=>rfl) (fun _=>rfl) (by omega) h5.n fun sw h7 H7 so7 f7 hoff7=>?_))
  have cG:h1.n+1 ∉ G:=fun hm=>by have:=hG _ hm;omega
  have gc7:=(f7.get (h1.n+1) (by omega) cG).trans gc6
  have lc7:h1.n+1<h7.n:=by have:=f7.n;omega
  have hn7:=f7.n
  have hH:∀ j,j∈H7→h3.n≤j:=fun j hj=>by
   rcases f7.new j hj with q | q
   ·exact hG j q
   ·omega
  have q7:=so7.rd.cells
  have gp:(h6.push (.cells 0 false (encR h5.n))).get (h1.n+1)=.cells 0 false [.ptr t 0 0,.map h1.n,sv,.int .i64 0,.int .i64 0]:=by rw [AHeap.get_push_ne _ _ (by omega)];exact gc6
  simp only [encR] at gp
  simp -implicitDefEqProofs (disch:=first|exact dz _|fail) only [↓AM.R0,AM.R1,AM.R2,reduceAdd,reduceLeDiff,reduceEqDiff,reduceToNat,Nat.reduceLT,↓reduceIte,reduceEq,Int.reduceLT,reduceLE,gc7,gc6,gc5,gp,q7.1,q7.2,w1,hbeq,y28]
  have fs:=HFrame.set h7 (h1.n+1) (.cells 0 false [.ptr t 0 0,.map h1.n,sw,.int .i64 0,.int .i64 0]) (F:=[h1.n+1]) (by simp) (by simpa using lc7)
  have so8:=so7.set (i:=h1.n+1) (fun hm=>by have:=hH _ hm;omega) (.cells 0 false [.ptr t 0 0,.map h1.n,sw,.int .i64 0,.int .i64 0])
  refine ⟨k-1,by omega,i+1,rs++[h5.n],sw,H7,by omega,by rw [List.length_append,hrs];rfl,y8,y27,rfl,?_,?_,rfl,so8,hoff7,hH,?_,fun j hj=>?_⟩
  ·have a1:=(F4.trans f5).trans f6
   have a2:HFrame h6 h7 G H7:=f7
   refine HFrame.setTmp ⟨by omega,by rw [a2.g,a1.g],fun j hj _=>?_,fun j hj=>by simp at hj,fun j hj=>by simp at hj⟩ (by omega) _
   rw [a2.get j (by omega) (fun hm=>by have:=hG _ hm;omega)]
   exact a1.get j hj (by simp)
  ·refine ⟨by simp;omega,by rw [show (h7.set (h1.n+1) _).g=h7.g from rfl,f7.g,f6.g,f5.g,f4.g],fun j hj hm=>?_,fun j hj=>.inl hj,fun j hj=>by simp at hj;subst hj;simp;omega⟩
   simp only [List.mem_singleton] at hm
   rw [AHeap.get_set_ne _ _ hm,f7.get j (by omega) (fun hm=>by have:=hG _ hm;omega),f6.get j (by omega) (by simp),f5.get j (by omega) (by simp)]
   exact f4.get j hj (by simpa using hm)
  ·rw [List.nodup_append]
   refine ⟨hnd,by simp,fun x hx y hy=>?_⟩
   simp at hy;subst hy
   have:=(hrow x hx).2.1
   omega
  ·have key:h3.n≤j∧j<h6.n∧j ∉ G∧h6.get j=.cells 0 false (List.replicate 16 .nilp):=by
    rcases List.mem_append.1 hj with q | q
    ·obtain ⟨r1,r2,r3,r4⟩:=hrow j q
     exact ⟨r1,by omega,r3,(f6.get j (by omega) (by simp)).trans ((f5.get j r2 (by simp)).trans r4)⟩
    ·simp at q;subst q
     exact ⟨by omega,by omega,fun hm=>by have:=so4.lt _ hm;omega,g6⟩
   obtain ⟨r1,r2,r3,r4⟩:=key
   refine ⟨r1,by omega,fun hm=>?_,?_⟩
   ·rcases f7.new j hm with e | e
    ·exact r3 e
    ·omega
   ·rw [AHeap.get_set_ne _ _ (by omega),f7.get j r2 r3,r4]
 ·have hi:i=p:=by simp only [decide_eq_false_iff_not] at hb;omega
  simp -implicitDefEqProofs (disch:=first|exact dz _|fail) only [↓AM.R0,AM.R1,AM.R2,reduceAdd,reduceLeDiff,reduceEqDiff,reduceToNat,Nat.reduceLT,↓reduceIte,reduceEq,Int.reduceLT,reduceLE,y8]
  subst hQ
  obtain ⟨id,gn,vs,hid,gid,lid,hvs,hGid⟩:∃ id gn vs,sv=.sl id gn 0 rs.length 1∧h'.get id=.cells gn false vs∧id<h'.n∧vs=rs.flatMap encR∧G=[id]:=by
   rcases so4 with ⟨_,e,_⟩ | ⟨id,gn,off,vs,e1,e2,e3,e4,e5,e6⟩
   ·subst e;simp at hrs;omega
   ·rcases hoff with e | ⟨a,b,c,d,e⟩
    ·rw [e] at e1;cases e1
    ·rw [e] at e1;cases e1
     exact ⟨id,gn,vs,e,e2,e3,by rw [←e5];rfl,e6⟩
  have hidn:h3.n≤id:=hG id (by rw [hGid];simp)
  have K1:∀ j,j∈q.F++[t,so,oo]→j<h1.n:=fun j hj=>(hnew j hj).2
  have hKK:∀ j,(if j=h1.n+1 then 1 else if j=h1.n then 2 else if j=id then 3 else if j∈rs then 4 else if j∈q.F++[t,so,oo] then 6 else 0)≠0→h.n≤j∧j<h'.n:=fun j hj=>by
   split at hj
   ·omega
   ·split at hj
    ·omega
    ·split at hj
     ·omega
     ·split at hj
      ·rename_i hm;have:=hrow j hm;omega
      ·split at hj
       ·rename_i hm;have:=hnew j hm;omega
       ·exact absurd rfl hj
  refine .inr ⟨by omega,by omega,by omega,by omega,⟨h1.n+1,t,so,oo,h1.n,id,gn,q,fun x=>rs.getD x 0,fun _=>0,fun j=>if j=h1.n+1 then 1 else if j=h1.n then 2 else if j=id then 3 else if j∈rs then 4 else if j∈q.F++[t,so,oo] then 6 else 0⟩,F4,fun j hj=>(hKK j hj).1,⟨ws,lv,[],?_⟩,rfl⟩
  subst hi
  have n0:=T.2
  refine ⟨zeroI_,R2.keepD f4 (fun j hj hm=>by simp at hm;have:=K1 j hj;omega),by show i≤8;omega,?_,(f4.get h1.n (by omega) (by simp)).trans gm,List.nodup_nil,fun a=>by simp [Cm.zero],?_,fun p hp=>?_,fun b hb=>by simp [Cm.zero] at hb,fun j hj=>⟨by have:=hKK j hj;omega,(hKK j hj).2⟩,⟨if_pos rfl,?_,?_⟩,fun p hp=>?_,fun b hb=>by simp [Cm.zero] at hb,fun j hj=>?_,fun a b ha hb e=>getD_inj hnd (by rw [hrs];exact ha) (by rw [hrs];exact hb) e,fun b b' hb=>by simp [Cm.zero] at hb⟩
  ·show h'.get (h1.n+1)=_
   rw [gc4,hid,hrs];rfl
  ·show h'.get id=.cells gn false (holdV _ _)
   rw [gid,hvs]
   have:=range_getD rs
   rw [hrs] at this
   show _=AObj.cells gn false ((List.range i).map fun p=>.sl (rs.getD p 0) 0 0 16 1)
   rw [this];rfl
  ·have hp:p<i:=hp
   have hm:=getD_mem (l:=rs) (i:=p) (by omega)
   show h'.get (rs.getD p 0)=_
   rw [(hrow _ hm).2.2.2]
   rfl
  ·show (if h1.n=h1.n+1 then 1 else if h1.n=h1.n then 2 else _)=2
   rw [if_neg (by omega),if_pos rfl]
  ·show (if id=h1.n+1 then 1 else if id=h1.n then 2 else if id=id then 3 else _)=3
   rw [if_neg (by omega),if_neg (by omega),if_pos rfl]
  ·have hp:p<i:=hp
   have hm:=getD_mem (l:=rs) (i:=p) (by omega)
   have:=hrow _ hm
   show (if rs.getD p 0=h1.n+1 then 1 else if rs.getD p 0=h1.n then 2 else if rs.getD p 0=id then 3 else if rs.getD p 0∈rs then 4 else _)=4
   rw [if_neg (by omega),if_neg (by omega),if_neg (fun e=>this.2.2.1 (by rw [hGid,e];simp)),if_pos hm]
  ·have hj':j∈q.F++[t,so,oo]:=hj
   have:=K1 j hj'
   show (if j=h1.n+1 then 1 else if j=h1.n then 2 else if j=id then 3 else if j∈rs then 4 else if j∈q.F++[t,so,oo] then 6 else 0)=6
   rw [if_neg (by omega),if_neg (by omega),if_neg (by omega),if_neg (fun hm=>by have:=hrow j hm;omega),if_pos hj']
end Go.Proofs.YthillgheddpmhaaDoor.Pg
namespace Go.Proofs.YthillgheddpmhaaDoor.Pg
open Go Go.AM Go.Proofs.YthillgheddpmhaaDoor.AmGJ
open Nat (reduceAdd reduceLeDiff reduceEqDiff)
open Int (reduceToNat reduceEq reduceLE)
theorem CFr.newH {h h1 h':AHeap} {g g':CG} (f:HFrame h h1 [] []) (k:∀ j,g.K j≠0→h.n≤j) (F:CFr h1 h' g g'):HFrame h h' [] []∧∀ j,j<h.n→g'.K j=0:=by
 have hk:∀ j,j<h.n→g.K j=0:=fun j hj=>by
  cases e:g.K j with
  | zero=>rfl
  | succ x=>have:=k j (by omega);omega
 refine ⟨⟨Nat.le_trans f.n F.n,F.G.trans f.g,fun j hj _=>(F.get j (Nat.lt_of_lt_of_le hj f.n) (hk j hj)).trans (f.get j hj (by simp)),fun j hj=>by simp at hj,fun j hj=>by simp at hj⟩,fun j hj=>(F.K j (Nat.lt_of_lt_of_le hj f.n)).trans (hk j hj)⟩
theorem CellQ.K0 {h:AHeap} {g:CG} {m:Cm} (Q:CellQ h g m):g.K 0=0:=by obtain ⟨ws,lv,bs,R⟩:=Q;exact R.K0
theorem CellQ.keep {h h':AHeap} {g:CG} {m:Cm} (Q:CellQ h g m) {A:List Nat} (f:HFrame h h' [] A):CellQ h' g m:=by obtain ⟨ws,lv,bs,R⟩:=Q;exact ⟨ws,lv,bs,R.keep f⟩
theorem CellQ.keepD {h h':AHeap} {g:CG} {m:Cm} (Q:CellQ h g m) {A A':List Nat} (f:HFrame h h' A A') (d:∀ j,g.K j≠0→j ∉ A):CellQ h' g m:=by obtain ⟨ws,lv,bs,R⟩:=Q;exact ⟨ws,lv,bs,R.keepD f d⟩
set_option maxHeartbeats 4000000 in
theorem awakeC {h:AHeap} (T:TabR h):CallP AP 43 [] h fun r h'=>HFrame h h' [] []∧r=.bool true:=by
 refine callP (rfl:Tr.get AP 43=some A43) ?_
 generalize hQ:(fun (r:AVal) (h':AHeap)=>_)=Q
 simp -implicitDefEqProofs (disch:=first|exact dz _|fail) only [↓AM.R0,AM.R1,AM.R2,reduceAdd,reduceLeDiff,reduceEqDiff,reduceToNat,Nat.reduceLT,↓reduceIte,reduceEq,Int.reduceLT,reduceLE]
 refine AM.callI_of (newC T 8 2) ?_
 rintro r h1 (⟨c,_⟩ | ⟨_,_,_,_,g,f1,k1,Q1,rfl⟩)
 ·exact absurd ⟨by decide,by decide,by decide,by decide⟩ c
 have T1:=T.frame f1 (by simp)
 have e1:(Cm.zero (8:Int).toNat (2:Int).toNat)=Cm.zero 8 2:=rfl
 rw [e1] at Q1
 simp -implicitDefEqProofs (disch:=first|exact dz _|fail) only [↓AM.R0,AM.R1,AM.R2,reduceAdd,reduceLeDiff,reduceEqDiff,reduceToNat,Nat.reduceLT,↓reduceIte,reduceEq,Int.reduceLT,reduceLE]
 refine AM.callI_of (allocC T1 Q1 0 3) ?_
 rintro r h2 ⟨g2,F2,Q2,rfl⟩
 have T2:=F2.tabR Q1.K0 T1
 have a2:((Cm.zero 8 2).alloc 0 3).1=(0,0):=by decide +kernel
 rw [a2,←F2.c]
 generalize hm2:((Cm.zero 8 2).alloc 0 3).2=m2 at *
 simp -implicitDefEqProofs (disch:=first|exact dz _|fail) only [↓AM.R0,AM.R1,AM.R2,reduceAdd,reduceLeDiff,reduceEqDiff,reduceToNat,Nat.reduceLT,↓reduceIte,reduceEq,Int.reduceLT,reduceLE,res2]
 refine AM.callI_of (allocC T2 Q2 0 3) ?_
 rintro r h3 ⟨g3,F3,Q3,rfl⟩
 have T3:=F3.tabR Q2.K0 T2
 have a3:(m2.alloc 0 3).1=(3,0):=by rw [←hm2];decide +kernel
 rw [a3,←F3.c]
 generalize hm3:(m2.alloc 0 3).2=m3 at *
 simp -implicitDefEqProofs (disch:=first|exact dz _|fail) only [↓AM.R0,AM.R1,AM.R2,reduceAdd,reduceLeDiff,reduceEqDiff,reduceToNat,Nat.reduceLT,↓reduceIte,reduceEq,Int.reduceLT,reduceLE,res2]
 refine AM.callI_of (allocC T3 Q3 1 3) ?_
 rintro r h4 ⟨g4,F4,Q4,rfl⟩
 have T4:=F4.tabR Q3.K0 T3
 have a4:(m3.alloc 1 3).1=(64,0):=by rw [←hm3,←hm2];decide +kernel
 rw [a4,←F4.c]
 generalize hm4:(m3.alloc 1 3).2=m4 at *
 simp -implicitDefEqProofs (disch:=first|exact dz _|fail) only [↓AM.R0,AM.R1,AM.R2,reduceAdd,reduceLeDiff,reduceEqDiff,reduceToNat,Nat.reduceLT,↓reduceIte,reduceEq,Int.reduceLT,reduceLE,res2]
 have Q4':=Q4
 obtain ⟨ws,lv,bs,R4⟩:=Q4'
 refine AM.callI_of (findC R4 5 (by decide)) ?_
 rintro r h5 ⟨f5,rfl⟩
 have Q5:=Q4.keep f5
 have a5:encC (m4.cell 5)=.tup [.int .i64 3,.int .i64 3,.bool true]:=by
  have e:(m4.cell 5).map (fun p=>(p.1.a,p.2,p.1.ws))=some (0,1,3):=by rw [←hm4,←hm3,←hm2];decide +kernel
  cases hc:m4.cell 5 with
  | none=>rw [hc] at e;cases e
  | some p =>
   obtain ⟨b,k⟩:=p
   rw [hc] at e
   simp only [Option.map_some,Option.some.injEq,Prod.mk.injEq] at e
   unfold encC
   simp only [e.1,e.2.1,e.2.2];rfl
 rw [a5]
 simp -implicitDefEqProofs (disch:=first|exact dz _|fail) only [↓AM.R0,AM.R1,AM.R2,reduceAdd,reduceLeDiff,reduceEqDiff,reduceToNat,Nat.reduceLT,↓reduceIte,reduceEq,Int.reduceLT,reduceLE]
 refine AM.callI_of (usedC Q5 1) ?_
 rintro r h6 ⟨f6,rfl⟩
 have Q6:=Q5.keep f6
 have a6:(findF m4.L 1).isSome=true:=by rw [←hm4,←hm3,←hm2];decide +kernel
 rw [a6]
 simp -implicitDefEqProofs (disch:=first|exact dz _|fail) only [↓AM.R0,AM.R1,AM.R2,reduceAdd,reduceLeDiff,reduceEqDiff,reduceToNat,Nat.reduceLT,↓reduceIte,reduceEq,Int.reduceLT,reduceLE]
 refine AM.callI_of (usedC Q6 2) ?_
 rintro r h7 ⟨f7,rfl⟩
 have a7:(findF m4.L 2).isSome=false:=by rw [←hm4,←hm3,←hm2];decide +kernel
 rw [a7]
 simp -implicitDefEqProofs (disch:=first|exact dz _|fail) only [↓AM.R0,AM.R1,AM.R2,reduceAdd,reduceLeDiff,reduceEqDiff,reduceToNat,Nat.reduceLT,↓reduceIte,reduceEq,Int.reduceLT,reduceLE]
 subst hQ
 have FF:=(F2.trans F3).trans F4
 exact ⟨((((CFr.newH f1 k1 FF).1).trans f5).trans f6).trans f7,rfl⟩
end Go.Proofs.YthillgheddpmhaaDoor.Pg
namespace Go.Proofs.YthillgheddpmhaaDoor.Pg
open Go Go.AM Go.Proofs.YthillgheddpmhaaDoor.AmGJ
open Nat (reduceAdd reduceLeDiff reduceEqDiff)
open Int (reduceToNat reduceEq reduceLE)
variable {m:Cm}
def UseB (b:Blk) (x s:Nat):Prop:=∃ k,b.u.testBit k=true∧x=b.a*64+k*b.ws∧s=b.ws
def InUse (m:Cm) (x s:Nat):Prop:=∃ b,b∈m.bl∧UseB b x s
def DInv (m:Cm):Prop:=∀ b,b∈m.bl→b.c≠-2∧(b.u≠0∨b.w≠none)
theorem CInv.bit (I:CInv m) {b:Blk} (hb:b∈m.bl) {k:Nat} (h:b.u.testBit k=true):b.c≠-2∧1≤b.ws∧k*b.ws+b.ws≤b.k*64:=by
 rcases I.B b hb with ⟨_,e,_⟩ | ⟨e,e2,_⟩ | ⟨c,h1,e,e3,e4⟩
 ·rw [e] at h;simp at h
 ·have hk:=(I.bd hb).1
  have hk0:k=0:=by
   rcases Nat.eq_zero_or_pos k with q | q
   ·exact q
   ·exfalso
    rw [Nat.testBit_lt_two_pow (Nat.lt_of_le_of_lt e2 (Nat.lt_of_lt_of_le (by decide:1<2^1) (Nat.pow_le_pow_right (by decide) q)))] at h;cases h
  have hw:b.ws=b.k*64:=by unfold Blk.ws;rw [if_pos (by omega)]
  rw [hk0,hw];omega
 ·have ht:=tabs c h1
  have hw:b.ws=sizeT.getD c 0:=by unfold Blk.ws;rw [if_neg (by omega),e,Int.toNat_natCast]
  have hlt:k<cellT.getD c 0:=by
   rcases Nat.lt_or_ge k (cellT.getD c 0) with q | q
   ·exact q
   ·rw [Nat.testBit_lt_two_pow (Nat.lt_of_lt_of_le e4 (Nat.pow_le_pow_right (by decide) q))] at h;cases h
  refine ⟨by omega,by omega,?_⟩
  rw [hw,e3]
  have h5:(k+1)*sizeT.getD c 0≤cellT.getD c 0*sizeT.getD c 0:=Nat.mul_le_mul_right _ (by omega)
  rw [Nat.add_mul,Nat.one_mul] at h5
  omega
theorem use_find (I:CInv m) {b:Blk} (hb:b∈m.bl) {k:Nat} (h:b.u.testBit k=true):m.find ((b.a*64+k*b.ws:Nat):Int)=some (b,k):=by
 obtain ⟨h1,h2,h3⟩:=I.bit hb h
 have hq1:b.a≤(b.a*64+k*b.ws) / 64:=by omega
 have hq2:(b.a*64+k*b.ws) / 64<b.a+b.k:=by omega
 unfold Cm.find
 rw [if_neg (by omega),Int.toNat_natCast]
 have hf:=I.S.find (s:=b.sp) (List.mem_map.2 ⟨b,hb,rfl⟩) (q:=(b.a*64+k*b.ws) / 64) hq1 hq2
 rw [findF_find] at hf
 cases e:m.bl.find? (fun b'=>decide (b'.a≤(b.a*64+k*b.ws) / 64)&&decide ((b.a*64+k*b.ws) / 64<b'.a+b'.k)) with
 | none=>rw [e] at hf;cases hf
 | some b' =>
  rw [e] at hf
  simp only [Option.map_some,Option.some.injEq] at hf
  have hb':=List.mem_of_find?_eq_some e
  have:b'.a=b.a:=congrArg Sp.a hf
  obtain rfl:=I.same hb' hb this
  simp only
  rw [if_neg h1,Nat.add_sub_cancel_left,Nat.mul_div_cancel _ (by omega)]
theorem use_bd (I:CInv m) {x s:Nat} (h:InUse m x s):1≤s∧x+s≤m.n*64:=by
 obtain ⟨b,hb,k,h1,rfl,rfl⟩:=h
 have h2:=I.bit hb h1
 have h3:=I.bd hb
 omega
theorem use_updW (I:CInv m) {b:Blk} (hb:b∈m.bl) (w:Option Nat) (x s:Nat):InUse (m.upd b.a (Blk.setW w)) x s↔InUse m x s:=by
 constructor
 ·rintro ⟨y,hy,hu⟩
  rcases mem_upd.1 hy with ⟨y',hy',e,rfl⟩ | ⟨hy',e⟩
  ·exact ⟨y',hy',hu⟩
  ·exact ⟨y,hy',hu⟩
 ·rintro ⟨y,hy,hu⟩
  by_cases e:y.a=b.a
  ·exact ⟨Blk.setW w y,mem_upd.2 (.inl ⟨y,hy,e,rfl⟩),hu⟩
  ·exact ⟨y,mem_upd.2 (.inr ⟨hy,e⟩),hu⟩
theorem use_ins {b:Blk} (h0:b.u=0) (x s:Nat):InUse (m.ins b) x s↔InUse m x s:=by
 constructor
 ·rintro ⟨y,hy,hu⟩
  rcases mem_insB.1 hy with rfl | e
  ·obtain ⟨k,q,_⟩:=hu;rw [h0] at q;simp at q
  ·exact ⟨y,e,hu⟩
 ·rintro ⟨y,hy,hu⟩;exact ⟨y,mem_insB.2 (.inr hy),hu⟩
theorem use_bits (I:CInv m) {b:Blk} (hb:b∈m.bl) {u k:Nat} (hk:∀ j,u.testBit j=if j=k then !b.u.testBit k else b.u.testBit j) (x s:Nat) :
  (b.u.testBit k=false→(InUse (m.upd b.a (Blk.setU u)) x s↔(x=b.a*64+k*b.ws∧s=b.ws)∨InUse m x s)) ∧
  (b.u.testBit k=true→(InUse (m.upd b.a (Blk.setU u)) x s↔InUse m x s∧x≠b.a*64+k*b.ws)):=by
 constructor
 ·intro hf
  constructor
  ·rintro ⟨y,hy,j,h1,h2,h3⟩
   rcases mem_upd.1 hy with ⟨y',hy',e,rfl⟩ | ⟨hy',e⟩
   ·obtain rfl:=I.same hy' hb e
    have h1':u.testBit j=true:=h1
    rw [hk] at h1'
    by_cases ej:j=k
    ·subst ej;exact .inl ⟨h2,h3⟩
    ·rw [if_neg ej] at h1'
     exact .inr ⟨y',hb,j,h1',h2,h3⟩
   ·exact .inr ⟨y,hy',j,h1,h2,h3⟩
  ·rintro (⟨h2,h3⟩ | ⟨y,hy,j,h1,h2,h3⟩)
   ·refine ⟨Blk.setU u b,mem_upd.2 (.inl ⟨b,hb,rfl,rfl⟩),k,?_,h2,h3⟩
    show u.testBit k=true
    rw [hk,if_pos rfl,hf];rfl
   ·by_cases e:y.a=b.a
    ·obtain rfl:=I.same hy hb e
     refine ⟨Blk.setU u y,mem_upd.2 (.inl ⟨y,hy,rfl,rfl⟩),j,?_,h2,h3⟩
     show u.testBit j=true
     rw [hk,if_neg (by rintro rfl;rw [hf] at h1;cases h1),h1]
    ·exact ⟨y,mem_upd.2 (.inr ⟨hy,e⟩),j,h1,h2,h3⟩
 ·intro ht
  constructor
  ·rintro ⟨y,hy,j,h1,h2,h3⟩
   rcases mem_upd.1 hy with ⟨y',hy',e,rfl⟩ | ⟨hy',e⟩
   ·obtain rfl:=I.same hy' hb e
    have h1':u.testBit j=true:=h1
    rw [hk] at h1'
    by_cases ej:j=k
    ·subst ej;rw [if_pos rfl,ht] at h1';cases h1'
    ·rw [if_neg ej] at h1'
     refine ⟨⟨y',hb,j,h1',h2,h3⟩,fun e2=>?_⟩
     have f1:=use_find I hb h1'
     have f2:=use_find I hb ht
     have h2':x=y'.a*64+j*y'.ws:=h2
     rw [←h2',e2,f2] at f1
     simp only [Option.some.injEq,Prod.mk.injEq,true_and] at f1
     exact ej f1.symm
   ·refine ⟨⟨y,hy',j,h1,h2,h3⟩,fun e2=>?_⟩
    have f1:=use_find I hy' h1
    have f2:=use_find I hb ht
    rw [←h2,e2,f2] at f1
    simp only [Option.some.injEq,Prod.mk.injEq] at f1
    exact e (by rw [f1.1])
  ·rintro ⟨⟨y,hy,j,h1,h2,h3⟩,ne⟩
   by_cases e:y.a=b.a
   ·obtain rfl:=I.same hy hb e
    refine ⟨Blk.setU u y,mem_upd.2 (.inl ⟨y,hy,rfl,rfl⟩),j,?_,h2,h3⟩
    show u.testBit j=true
    rw [hk,if_neg (by rintro rfl;exact ne h2),h1]
   ·exact ⟨y,mem_upd.2 (.inr ⟨hy,e⟩),j,h1,h2,h3⟩
theorem bits_set {u k:Nat} (h:u.testBit k=false) (j:Nat):(u ||| 2^k).testBit j=if j=k then !u.testBit k else u.testBit j:=by
 rw [Nat.testBit_or,Nat.testBit_two_pow]
 by_cases e:j=k
 ·subst e;simp [h]
 ·rw [if_neg e,decide_eq_false (fun q=>e q.symm),Bool.or_false]
theorem bits_clr {u k:Nat} (hu:u<18446744073709551616) (hk:k<64) (h:u.testBit k=true) (j:Nat):(clr u k).testBit j=if j=k then !u.testBit k else u.testBit j:=by
 obtain ⟨h1,h2⟩:=clr_bit hu hk
 by_cases e:j=k
 ·subst e;rw [if_pos rfl,h];exact h1
 ·rw [if_neg e]
  have h3:=h2 h
  have:u.testBit j=((clr u k) ||| 2^k).testBit j:=by unfold clr;rw [h3]
  rw [this,Nat.testBit_or,Nat.testBit_two_pow,decide_eq_false (fun q=>e q.symm),Bool.or_false]
theorem pick2_use (I:CInv m) {p c:Nat} (hc:c<16):(∀ x s,InUse (m.pick2 p c).2 x s↔InUse m x s)∧(DInv m→DInv (m.pick2 p c).2):=by
 unfold Cm.pick2
 cases hs:m.spare c with
 | some b =>
  obtain ⟨h1,h2,h3,h4⟩:=spare_mem hs
  refine ⟨fun x s=>use_updW I h1 _ x s,fun D y hy=>?_⟩
  rcases mem_upd.1 hy with ⟨y',hy',e,rfl⟩ | ⟨hy',e⟩
  ·exact ⟨(D y' hy').1,.inr (by show (some p:Option Nat)≠none;simp)⟩
  ·exact D y hy'
 | none =>
  simp only
  cases hf:m.fit (pageT.getD c 0) with
  | none=>exact ⟨fun x s=>Iff.rfl,id⟩
  | some a =>
   have ht:=tabs c hc
   have hfa:=(fit_some (by omega) (fun q=>f_out m)).1 hf
   have I':CInv (m.ins ⟨a,pageT.getD c 0,c,0,none⟩):=I.ins (b:=⟨a,pageT.getD c 0,c,0,none⟩) (by show 1≤pageT.getD c 0;omega) hfa (.inr (.inr ⟨c,hc,rfl,rfl,Nat.two_pow_pos _⟩)) rfl
   have hm:(⟨a,pageT.getD c 0,c,0,none⟩:Blk)∈(m.ins ⟨a,pageT.getD c 0,c,0,none⟩).bl:=mem_insB.2 (.inl rfl)
   refine ⟨fun x s=>(use_updW I' hm (some p) x s).trans (use_ins rfl x s),fun D y hy=>?_⟩
   rcases mem_upd.1 hy with ⟨y',hy',e,rfl⟩ | ⟨hy',e⟩
   ·obtain rfl:=I'.same hy' hm e
    exact ⟨by show (c:Int)≠-2;omega,.inr (by show (some p:Option Nat)≠none;simp)⟩
   ·rcases mem_insB.1 hy' with rfl | q
    ·exact absurd rfl e
    ·exact D y q
theorem pick_use (I:CInv m) {p c:Nat} (hc:c<16):(∀ x s,InUse (m.pick p c).2 x s↔InUse m x s)∧(DInv m→DInv (m.pick p c).2):=by
 unfold Cm.pick
 cases hh:m.held p c with
 | none=>exact pick2_use I hc
 | some b =>
  simp only
  obtain ⟨h1,h2,h3⟩:=held_mem hh
  by_cases hf:b.full=true
  ·rw [if_pos hf]
   have I':CInv (m.upd b.a (Blk.setW none)):=I.setW h1 h2 fun q hq=>by cases hq
   obtain ⟨a1,a2⟩:=pick2_use I' (p:=p) hc
   refine ⟨fun x s=>(a1 x s).trans (use_updW I h1 none x s),fun D=>a2 fun y hy=>?_⟩
   rcases mem_upd.1 hy with ⟨y',hy',e,rfl⟩ | ⟨hy',e⟩
   ·obtain rfl:=I.same hy' h1 e
    refine ⟨(D y' hy').1,.inl fun e0=>?_⟩
    have e0':y'.u=0:=e0
    unfold Blk.full at hf
    rw [e0',pc_z,h2,Int.toNat_natCast] at hf
    have:=tabs c hc
    have:=of_decide_eq_true hf
    omega
   ·exact D y hy'
  ·rw [if_neg hf];exact ⟨fun x s=>Iff.rfl,id⟩
theorem pick2_pr (m:Cm) (p c:Nat):(m.pick2 p c).2.pr=m.pr:=by
 unfold Cm.pick2
 cases m.spare c with
 | some b=>rfl
 | none=>simp only;cases m.fit (pageT.getD c 0)<;>rfl
theorem pick_pr (m:Cm) (p c:Nat):(m.pick p c).2.pr=m.pr:=by
 unfold Cm.pick
 cases m.held p c with
 | none=>exact pick2_pr m p c
 | some b =>
  simp only
  split
  ·exact pick2_pr _ p c
  ·rfl
theorem pick2_inv (I:CInv m) {p c:Nat} (hp:p<m.pr) (hc:c<16) (hn:m.held p c=none):CInv (m.pick2 p c).2∧∀ a,(m.pick2 p c).1=some a→∃ b,b∈(m.pick2 p c).2.bl∧b.a=a∧b.c=(c:Int)∧b.w=some p∧b.full=false:=by
 unfold Cm.pick2
 cases hs:m.spare c with
 | some b =>
  obtain ⟨h1,h2,h3,h4⟩:=spare_mem hs
  refine ⟨I.setW h1 h2 fun q hq=>(by cases hq;exact ⟨hp,hn⟩),fun a ha=>?_⟩
  simp only [Option.some.injEq] at ha
  exact ⟨Blk.setW (some p) b,mem_upd.2 (.inl ⟨b,h1,rfl,rfl⟩),ha,h2,rfl,h4⟩
 | none =>
  simp only
  cases hf:m.fit (pageT.getD c 0) with
  | none=>exact ⟨I,fun a ha=>by cases ha⟩
  | some a =>
   have ht:=tabs c hc
   have hfa:=(fit_some (by omega) (fun q=>f_out m)).1 hf
   have I':CInv (m.ins ⟨a,pageT.getD c 0,c,0,none⟩):=I.ins (b:=⟨a,pageT.getD c 0,c,0,none⟩) (by show 1≤pageT.getD c 0;omega) hfa (.inr (.inr ⟨c,hc,rfl,rfl,Nat.two_pow_pos _⟩)) rfl
   have hm:(⟨a,pageT.getD c 0,c,0,none⟩:Blk)∈(m.ins ⟨a,pageT.getD c 0,c,0,none⟩).bl:=mem_insB.2 (.inl rfl)
   refine ⟨I'.setW hm rfl fun q hq=>(by cases hq;exact ⟨hp,held_ins rfl hn⟩),fun a' ha=>?_⟩
   simp only [Option.some.injEq] at ha
   refine ⟨Blk.setW (some p) ⟨a,pageT.getD c 0,c,0,none⟩,mem_upd.2 (.inl ⟨_,hm,rfl,rfl⟩),ha,rfl,rfl,?_⟩
   show decide (pc 64 0=cellT.getD (c:Int).toNat 0)=false
   rw [pc_z,Int.toNat_natCast];exact decide_eq_false (by omega)
theorem pick_inv (I:CInv m) {p c:Nat} (hp:p<m.pr) (hc:c<16):CInv (m.pick p c).2∧∀ a,(m.pick p c).1=some a→∃ b,b∈(m.pick p c).2.bl∧b.a=a∧b.c=(c:Int)∧b.w=some p∧b.full=false:=by
 unfold Cm.pick
 cases hh:m.held p c with
 | none=>exact pick2_inv I hp hc hh
 | some b =>
  simp only
  obtain ⟨h1,h2,h3⟩:=held_mem hh
  by_cases hf:b.full=true
  ·rw [if_pos hf]
   have I':CInv (m.upd b.a (Blk.setW none)):=I.setW h1 h2 fun q hq=>by cases hq
   exact pick2_inv I' hp hc (held_upd_none I hh)
  ·rw [if_neg hf]
   refine ⟨I,fun a ha=>?_⟩
   simp only [Option.some.injEq] at ha
   exact ⟨b,h1,ha,h2,h3,by simpa using hf⟩
theorem alloc_use (I:CInv m) (p w:Int) :
  ((m.alloc p w).1.2≠0∧(m.alloc p w).2.pr=m.pr∧(∀ x s,InUse (m.alloc p w).2 x s↔InUse m x s)∧(m.alloc p w).2.cells=m.cells∧(DInv m→DInv (m.alloc p w).2)) ∨
  ((m.alloc p w).1.2=0∧(m.alloc p w).2.pr=m.pr∧∃ x s:Nat,(m.alloc p w).1.1=(x:Int)∧w≤s∧(∀ y t,InUse (m.alloc p w).2 y t↔(y=x∧t=s)∨InUse m y t)∧(∀ t,¬ InUse m x t)∧(m.alloc p w).2.cells=m.cells+1∧(DInv m→DInv (m.alloc p w).2)):=by
 unfold Cm.alloc
 by_cases hbad:p<0∨(m.pr:Int)≤p∨w<1
 ·rw [if_pos hbad];exact .inl ⟨by simp,rfl,fun _ _=>Iff.rfl,rfl,id⟩
 rw [if_neg hbad]
 by_cases h1024:1024<w
 ·rw [if_pos h1024];exact .inl ⟨by simp,rfl,fun _ _=>Iff.rfl,rfl,id⟩
 rw [if_neg h1024]
 obtain ⟨p,rfl⟩:∃ x:Nat,p=x:=⟨p.toNat,by omega⟩
 obtain ⟨w,rfl⟩:∃ x:Nat,w=x:=⟨w.toNat,by omega⟩
 rw [Int.toNat_natCast,Int.toNat_natCast]
 have key:∀ (m':Cm) (I':CInv m') (b:Blk) (k u:Nat),b∈m'.bl→(∀ x s,InUse m' x s↔InUse m x s)→b.u.testBit k=false→(∀ j,u.testBit j=if j=k then !b.u.testBit k else b.u.testBit j)→CInv (m'.upd b.a (Blk.setU u)) →
   (∀ y t,InUse (m'.upd b.a (Blk.setU u)) y t↔(y=b.a*64+k*b.ws∧t=b.ws)∨InUse m y t)∧∀ t,¬ InUse m (b.a*64+k*b.ws) t:=fun m' I' b k u hb hu hbit hj I2=>by
  refine ⟨fun y t=>by rw [(use_bits I' hb hj y t).1 hbit,hu],fun t ht=>?_⟩
  obtain ⟨b2,hb2,k2,q1,q2,q3⟩:=(hu _ t).2 ht
  have hm2:Blk.setU u b∈(m'.upd b.a (Blk.setU u)).bl:=mem_upd.2 (.inl ⟨b,hb,rfl,rfl⟩)
  have hbk:(Blk.setU u b).u.testBit k=true:=by show u.testBit k=true;rw [hj,if_pos rfl,hbit];rfl
  have f1:=use_find I2 hm2 hbk
  by_cases e:b2.a=b.a
  ·obtain rfl:=I'.same hb2 hb e
   have hbk2:(Blk.setU u b2).u.testBit k2=true:=by
    show u.testBit k2=true
    rw [hj];split
    ·rw [hbit];rfl
    ·exact q1
   have f2:=use_find I2 hm2 hbk2
   have e1:(Blk.setU u b2).a*64+k*(Blk.setU u b2).ws=(Blk.setU u b2).a*64+k2*(Blk.setU u b2).ws:=q2
   rw [←e1,f1] at f2
   simp only [Option.some.injEq,Prod.mk.injEq,true_and] at f2
   rw [f2,q1] at hbit;cases hbit
  ·have f2:=use_find I2 (b:=b2) (mem_upd.2 (.inr ⟨hb2,e⟩)) q1
   have e1:(Blk.setU u b).a*64+k*(Blk.setU u b).ws=b2.a*64+k2*b2.ws:=q2
   rw [←e1,f1] at f2
   simp only [Option.some.injEq,Prod.mk.injEq] at f2
   exact e (by rw [←f2.1];rfl)
 by_cases h64:(64:Int)<(w:Int)
 ·rw [if_pos h64]
  have hk:1≤(w+63) / 64:=by omega
  have hwk:w≤(w+63) / 64*64:=by omega
  generalize (w+63) / 64=k at *
  cases hft:m.fit k with
  | none=>exact .inl ⟨by simp,rfl,fun _ _=>Iff.rfl,rfl,id⟩
  | some a =>
   have hfa:=(fit_some hk (fun q=>f_out m)).1 hft
   have I4:CInv (m.ins ⟨a,k,-1,0,none⟩):=I.ins (b:=⟨a,k,-1,0,none⟩) hk hfa (.inr (.inl ⟨rfl,by simp,rfl⟩)) rfl
   have hm:(⟨a,k,-1,0,none⟩:Blk)∈(m.ins ⟨a,k,-1,0,none⟩).bl:=mem_insB.2 (.inl rfl)
   have I5:CInv ((m.ins ⟨a,k,-1,0,none⟩).upd a (Blk.setU 1)):=I4.setU hm (.inl ⟨rfl,Nat.le_refl _⟩)
   obtain ⟨k1,k2⟩:=key _ I4 ⟨a,k,-1,0,none⟩ 0 1 hm (use_ins rfl) (by simp) (fun j=>by
    by_cases e:j=0
    ·subst e;simp
    ·rw [if_neg e];simp only [Nat.zero_testBit]
     cases j with
     | zero=>exact absurd rfl e
     | succ j=>rw [Nat.testBit_succ];simp) I5
   have hc:=cells_upd I4 hm 1
   have hc0:=cells_ins0 (m:=m) ⟨a,k,-1,0,none⟩ rfl
   have hws:(⟨a,k,-1,0,none⟩:Blk).ws=k*64:=rfl
   rw [hws,Nat.zero_mul,Nat.add_zero] at k1 k2
   refine .inr ⟨rfl,rfl,a*64,k*64,rfl,by omega,k1,k2,?_,fun D y hy=>?_⟩
   ·have e1:pc 64 (⟨a,k,-1,0,none⟩:Blk).u=0:=pc_z 64
    rw [e1,pc1] at hc
    show ((m.ins ⟨a,k,-1,0,none⟩).upd a (Blk.setU 1)).cells=_
    have hc':((m.ins ⟨a,k,-1,0,none⟩).upd a (Blk.setU 1)).cells+0=(m.ins ⟨a,k,-1,0,none⟩).cells+1:=hc
    omega
   ·rcases mem_upd.1 hy with ⟨y',hy',e,rfl⟩ | ⟨hy',e⟩
    ·obtain rfl:=I4.same hy' hm e
     exact ⟨by show (-1:Int)≠-2;decide,.inl (by show (1:Nat)≠0;decide)⟩
    ·rcases mem_insB.1 hy' with rfl | q
     ·exact absurd rfl e
     ·exact D y q
 ·rw [if_neg h64]
  obtain ⟨hc16,hcls⟩:=cls_ok w (by omega) (by omega)
  have hp:p<m.pr:=by omega
  obtain ⟨I3,hb3⟩:=pick_inv I hp hc16
  obtain ⟨u3,D3⟩:=pick_use I (p:=p) hc16
  have c3:=(pick_cw I hp hc16).1
  have pr3:=pick_pr m p (clsOf w)
  cases hpk:m.pick p (clsOf w) with
  | mk o m3 =>
   rw [hpk] at I3 hb3 u3 D3 c3 pr3
   simp only at I3 hb3 u3 D3 c3 pr3
   cases o with
   | none=>exact .inl ⟨by simp,pr3,u3,c3,D3⟩
   | some a =>
    obtain ⟨b,hb,rfl,hbc,hbw,hbf⟩:=hb3 a rfl
    have hg:=I3.get hb
    simp only [hg]
    obtain ⟨d,hd1,hd2,hd3,hd4⟩:=I3.cls hb (by omega)
    have ht:=tabs d hd1
    have hnf:pc 64 b.u≠cellT.getD d 0:=fun e2=>by
     unfold Blk.full at hbf
     rw [hd2,Int.toNat_natCast,decide_eq_true e2] at hbf;cases hbf
    obtain ⟨z1,z2,z3⟩:=lowZ_ok (by omega) hd4 hnf
    have hu2:b.u ||| 2^lowZ b.u<2^cellT.getD d 0:=Nat.or_lt_two_pow hd4 (Nat.pow_lt_pow_right (by decide) z1)
    have I5:CInv (m3.upd b.a (Blk.setU (b.u ||| 2^lowZ b.u))):=I3.setU hb (.inr ⟨d,hd1,hd2,hu2⟩)
    obtain ⟨k1,k2⟩:=key m3 I3 b (lowZ b.u) _ hb u3 z2 (bits_set z2) I5
    have hc5:=cells_upd I3 hb (b.u ||| 2^lowZ b.u)
    rw [pc_set 64 _ _ (by omega) z2] at hc5
    have hdw:d=clsOf w:=by omega
    have hsz:w≤b.ws:=by
     have h1:b.ws=sizeT.getD d 0:=by unfold Blk.ws;rw [if_neg (by omega),hd2,Int.toNat_natCast]
     rw [h1,hdw]
     have:=hcls (clsOf w) hc16
     omega
    refine .inr ⟨trivial,pr3,b.a*64+lowZ b.u*b.ws,b.ws,rfl,by omega,k1,k2,by omega,fun D y hy=>?_⟩
    rcases mem_upd.1 hy with ⟨y',hy',e,rfl⟩ | ⟨hy',e⟩
    ·obtain rfl:=I3.same hy' hb e
     exact ⟨(D3 D y' hb).1,.inr (by show y'.w≠none;rw [hbw];simp)⟩
    ·exact D3 D y hy'
end Go.Proofs.YthillgheddpmhaaDoor.Pg
namespace Go.Proofs.YthillgheddpmhaaDoor.Pg
open Go Go.AM Go.Proofs.YthillgheddpmhaaDoor.AmGJ
open Nat (reduceAdd reduceLeDiff reduceEqDiff)
open Int (reduceToNat reduceEq reduceLE)
attribute [local irreducible] pc
variable {m:Cm}
theorem pick2_n (m:Cm) (p c:Nat):(m.pick2 p c).2.n=m.n:=by
 unfold Cm.pick2
 cases m.spare c with
 | some b=>rfl
 | none=>simp only;cases m.fit (pageT.getD c 0)<;>rfl
theorem pick_n (m:Cm) (p c:Nat):(m.pick p c).2.n=m.n:=by
 unfold Cm.pick
 cases m.held p c with
 | none=>exact pick2_n m p c
 | some b =>
  simp only
  split
  ·exact pick2_n _ p c
  ·rfl
theorem alloc_n (m:Cm) (p w:Int):(m.alloc p w).2.n=m.n:=by
 unfold Cm.alloc
 split
 ·rfl
 ·split
  ·rfl
  ·split
   ·split<;>rfl
   ·have h:=pick_n m p.toNat (clsOf w.toNat)
    cases e:m.pick p.toNat (clsOf w.toNat) with
    | mk o m' =>
     rw [e] at h
     cases o with
     | none=>exact h
     | some a=>simp only;split<;>exact h
theorem fl1_inv (I:CInv m) (p c:Nat):CInv (m.fl1 p c):=by
 unfold Cm.fl1
 cases hh:m.held p c with
 | none=>exact I
 | some b =>
  obtain ⟨h1,h2,h3⟩:=held_mem hh
  have I':CInv (m.upd b.a (Blk.setW none)):=I.setW h1 h2 fun q hq=>by cases hq
  have hm:Blk.setW none b∈(m.upd b.a (Blk.setW none)).bl:=mem_upd.2 (.inl ⟨b,h1,rfl,rfl⟩)
  simp only
  unfold Cm.drop
  split
  ·exact I'.rem hm
  ·exact I'
theorem flN_inv (I:CInv m) (p:Nat):∀ i,CInv (m.flN p i)
 | 0=>I
 | i+1=>fl1_inv (flN_inv I p i) p i
theorem CellQ.inv {h:AHeap} {g:CG} {m:Cm} (Q:CellQ h g m):CInv m:=by obtain ⟨ws,lv,bs,R⟩:=Q;exact R.I
theorem CellQ.bds {h:AHeap} {g:CG} {m:Cm} (Q:CellQ h g m):m.cells≤262144:=by obtain ⟨ws,lv,bs,R⟩:=Q;exact R.bds.1
theorem CellQ.kn {h:AHeap} {g:CG} {m:Cm} (Q:CellQ h g m) {j:Nat} (hj:h.n≤j):g.K j=0:=by
 obtain ⟨ws,lv,bs,R⟩:=Q
 cases e:g.K j with
 | zero=>rfl
 | succ x=>have:=R.lt (j:=j) (by omega);omega
structure LawQ (h h':AHeap) (g:CG) (m:Cm):Prop where
 f:HFrame h h' [] []
 q:CellQ h' g m
 k:∀ j,j<h.n→g.K j=0
theorem LawQ.cl {h h1 h':AHeap} {g g':CG} {m m':Cm} (L:LawQ h h1 g m) (F:CFr h1 h' g g') (Q:CellQ h' g' m'):LawQ h h' g' m' :=
 ⟨⟨Nat.le_trans L.f.n F.n,F.G.trans L.f.g,fun j hj _=>(F.get j (Nat.lt_of_lt_of_le hj L.f.n) (L.k j hj)).trans (L.f.get j hj (by simp)),fun j hj=>by simp at hj,fun j hj=>by simp at hj⟩,Q,fun j hj=>(F.K j (Nat.lt_of_lt_of_le hj L.f.n)).trans (L.k j hj)⟩
theorem LawQ.own {h h1 h':AHeap} {g:CG} {m:Cm} (L:LawQ h h1 g m) {A A':List Nat} (F:HFrame h1 h' A A') (d:∀ j,j∈A→g.K j=0∧h.n≤j):LawQ h h' g m :=
 ⟨⟨Nat.le_trans L.f.n F.n,F.g.trans L.f.g,fun j hj _=>(F.get j (Nat.lt_of_lt_of_le hj L.f.n) (fun hm=>by have:=(d j hm).2;omega)).trans (L.f.get j hj (by simp)),fun j hj=>by simp at hj,fun j hj=>by simp at hj⟩,L.q.keepD F fun j hk hm=>hk (d j hm).1,L.k⟩
theorem LawQ.tabR {h h':AHeap} {g:CG} {m:Cm} (L:LawQ h h' g m) (T:TabR h):TabR h':=T.frame L.f (by simp)
end Go.Proofs.YthillgheddpmhaaDoor.Pg
namespace Go.Proofs.YthillgheddpmhaaDoor.Pg
open Go Go.AM Go.Proofs.YthillgheddpmhaaDoor.AmGJ
open Nat (reduceAdd reduceLeDiff reduceEqDiff)
open Int (reduceToNat reduceEq reduceLE)
attribute [local irreducible] pc
/-! The reference's classes. -/
theorem bs16 (e:Env) (h:AHeap):aop e h (.buildSlice 1 16 [.int .i64 0] [(0,.val (.int .i64 1)),(1,.val (.int .i64 2)),(2,.val (.int .i64 3)),(3,.val (.int .i64 4)),(4,.val (.int .i64 5)),(5,.val (.int .i64 6)),(6,.val (.int .i64 8)),(7,.val (.int .i64 10)),(8,.val (.int .i64 12)),(9,.val (.int .i64 16)),(10,.val (.int .i64 20)),(11,.val (.int .i64 24)),(12,.val (.int .i64 32)),(13,.val (.int .i64 40)),(14,.val (.int .i64 48)),(15,.val (.int .i64 64))])=some (.sl h.n 0 0 16 1,h.push (.cells 0 false szV)):=by
 have z:((List.range (16*1)).map fun i=>[AVal.int .i64 0].getD (i%1) .undef)=[.int .i64 0,.int .i64 0,.int .i64 0,.int .i64 0,.int .i64 0,.int .i64 0,.int .i64 0,.int .i64 0,.int .i64 0,.int .i64 0,.int .i64 0,.int .i64 0,.int .i64 0,.int .i64 0,.int .i64 0,.int .i64 0]:=rfl
 rw [AM.a_buildSlice,z]
 simp -implicitDefEqProofs (disch:=first|exact dz _|fail) only [↓AM.R0,AM.R1,AM.R2,reduceAdd,reduceLeDiff,reduceEqDiff,reduceToNat,Nat.reduceLT,↓reduceIte,reduceEq,Int.reduceLT,reduceLE,List.map_cons,List.map_nil,Nat.reduceMul]
theorem rWords {h:AHeap} {c:Nat} (hc:c<16):CallP AP 99 [.int .i64 (c:Int)] h fun r h'=>HFrame h h' [] []∧r=.int .i64 ((sizeT.getD c 0:Nat):Int):=by
 refine callP (rfl:Tr.get AP 99=some A99) ?_
 generalize hQ:(fun (r:AVal) (h':AHeap)=>_)=Q
 have d1:decide ((c:Int)<0)=false:=decide_eq_false (by omega)
 have d2:decide ((16:Int)≤(c:Int))=false:=decide_eq_false (by omega)
 have d2':decide (((16:Nat):Int)≤(c:Int))=false:=decide_eq_false (by omega)
 have g1:(h.push (.cells 0 false szV)).get h.n=.cells 0 false szV:=AHeap.get_push_same _ _
 have x1:=ix1 g1 (len:=16) (i:=c) hc
 have x2:=szV_at hc
 have f1:=(HFrame.refl (h:=h) (F:=[]) (by simp)).pushTmp (.cells 0 false szV)
 have n1:h.n<(h.push (.cells 0 false szV)).n:=by simp
 simp -implicitDefEqProofs (disch:=first|exact dz _|fail) only [↓AM.R0,AM.R1,AM.R2,reduceAdd,reduceLeDiff,reduceEqDiff,reduceToNat,Nat.reduceLT,↓reduceIte,reduceEq,Int.reduceLT,reduceLE,bs16,d1,d2,d2']
 generalize h.push (.cells 0 false szV)=h2 at *
 simp -implicitDefEqProofs (disch:=first|exact dz _|fail) only [↓AM.R0,AM.R1,AM.R2,reduceAdd,reduceLeDiff,reduceEqDiff,reduceToNat,Nat.reduceLT,↓reduceIte,reduceEq,Int.reduceLT,reduceLE,x1,g1,x2]
 subst hQ
 exact ⟨f1,rfl⟩
theorem pg_ok2 (c:Nat) (h:c<16):∀ x,1≤x→x≤pageT.getD c 0→(x*64<x*64%sizeT.getD c 0*8↔x≠pageT.getD c 0):=by
 have:∀ c:Fin 16,∀ x:Fin 4,1≤x.1→x.1≤pageT.getD c.1 0→(x.1*64<x.1*64%sizeT.getD c.1 0*8↔x.1≠pageT.getD c.1 0):=by decide +kernel
 intro x h1 h2
 have ht:=tabs c h
 exact this ⟨c,h⟩ ⟨x,by omega⟩ h1 h2
set_option maxHeartbeats 2000000 in
theorem rPages {h:AHeap} {c:Nat} (hc:c<16):CallP AP 100 [.int .i64 (c:Int)] h fun r h'=>HFrame h h' [] []∧r=.int .i64 ((pageT.getD c 0:Nat):Int):=by
 refine callP (rfl:Tr.get AP 100=some A100) ?_
 generalize hQ:(fun (r:AVal) (h':AHeap)=>_)=Q
 obtain ⟨t1,t2,t3,t4,_⟩:=tabs c hc
 have ok:=pg_ok2 c hc
 simp -implicitDefEqProofs (disch:=first|exact dz _|fail) only [↓AM.R0,AM.R1,AM.R2,reduceAdd,reduceLeDiff,reduceEqDiff,reduceToNat,Nat.reduceLT,↓reduceIte,reduceEq,Int.reduceLT,reduceLE]
 refine AM.callI_of (rWords hc) ?_
 rintro r h2 ⟨f2,rfl⟩
 generalize sizeT.getD c 0=w at *
 generalize pageT.getD c 0=q at *
 have d1:decide ((w:Int)=0)=false:=decide_eq_false (by omega)
 simp -implicitDefEqProofs (disch:=first|exact dz _|fail) only [↓AM.R0,AM.R1,AM.R2,reduceAdd,reduceLeDiff,reduceEqDiff,reduceToNat,Nat.reduceLT,↓reduceIte,reduceEq,Int.reduceLT,reduceLE,d1]
 refine AM.loopI_of (fun k e h'=>∃ x:Nat,k+x=q∧1≤x∧h'=h2∧e.val 3=.int .i64 (w:Int)∧e.val 4=.int .i64 (x:Int)) (q-1) ?_ ?_
 ·refine ⟨1,by omega,by omega,rfl,?_,?_⟩<;>(simp -implicitDefEqProofs (disch:=first|exact dz _|fail) only [↓AM.R0,AM.R1,AM.R2,reduceAdd,reduceLeDiff,reduceEqDiff,reduceToNat,Nat.reduceLT,↓reduceIte,reduceEq,Int.reduceLT,reduceLE])<;>rfl
 ·rintro k e h' ⟨x,hk,hx,hh,y3,y4⟩
  rw [hh]
  have w1:IntKind.i64.wrap ((x:Int)*64)=((x*64:Nat):Int):=(wrap64 (by omega) (by omega)).trans (by omega)
  have w2:((x*64:Nat):Int).tmod (w:Int)=((x*64%w:Nat):Int):=rfl
  have hm:x*64%w<w:=Nat.mod_lt _ (by omega)
  have w3:IntKind.i64.wrap (((x*64%w:Nat):Int)*8)=((x*64%w*8:Nat):Int):=(wrap64 (by omega) (by omega)).trans (by omega)
  have w5:IntKind.i64.wrap ((x:Int)+1)=((x+1:Nat):Int):=(wrap64 (by omega) (by omega)).trans (by omega)
  have hw:(w:Int)≠0:=by omega
  have dd:decide (((x*64:Nat):Int)<((x*64%w*8:Nat):Int))=decide (x≠q):=decide_eq_decide.2 (by rw [←ok x hx (by omega)];omega)
  generalize x*64%w=X at *
  simp -implicitDefEqProofs (disch:=first|exact dz _|fail) only [↓AM.R0,AM.R1,AM.R2,reduceAdd,reduceLeDiff,reduceEqDiff,reduceToNat,Nat.reduceLT,↓reduceIte,reduceEq,Int.reduceLT,reduceLE,y3,y4,w1,w2,w3,dd]
  refine AM.cI_bool (fun hb=>?_) (fun hb=>?_)
  ·have hb:x≠q:=by simpa using hb
   simp -implicitDefEqProofs (disch:=first|exact dz _|fail) only [↓AM.R0,AM.R1,AM.R2,reduceAdd,reduceLeDiff,reduceEqDiff,reduceToNat,Nat.reduceLT,↓reduceIte,reduceEq,Int.reduceLT,reduceLE,y3,y4,w5]
   exact ⟨k-1,by omega,x+1,by omega,by omega,rfl⟩
  ·obtain rfl:x=q:=by simpa using hb
   simp -implicitDefEqProofs (disch:=first|exact dz _|fail) only [↓AM.R0,AM.R1,AM.R2,reduceAdd,reduceLeDiff,reduceEqDiff,reduceToNat,Nat.reduceLT,↓reduceIte,reduceEq,Int.reduceLT,reduceLE,y4]
   subst hQ
   exact ⟨f2,rfl⟩
theorem rCells {h:AHeap} {c:Nat} (hc:c<16):CallP AP 101 [.int .i64 (c:Int)] h fun r h'=>HFrame h h' [] []∧r=.int .i64 ((cellT.getD c 0:Nat):Int):=by
 refine callP (rfl:Tr.get AP 101=some A101) ?_
 generalize hQ:(fun (r:AVal) (h':AHeap)=>_)=Q
 obtain ⟨t1,t2,t3,t4,t5,t6,t7,_⟩:=tabs c hc
 simp -implicitDefEqProofs (disch:=first|exact dz _|fail) only [↓AM.R0,AM.R1,AM.R2,reduceAdd,reduceLeDiff,reduceEqDiff,reduceToNat,Nat.reduceLT,↓reduceIte,reduceEq,Int.reduceLT,reduceLE]
 refine AM.callI_of (rWords hc) ?_
 rintro r h2 ⟨f2,rfl⟩
 have d1:decide (((sizeT.getD c 0:Nat):Int)=0)=false:=decide_eq_false (by omega)
 simp -implicitDefEqProofs (disch:=first|exact dz _|fail) only [↓AM.R0,AM.R1,AM.R2,reduceAdd,reduceLeDiff,reduceEqDiff,reduceToNat,Nat.reduceLT,↓reduceIte,reduceEq,Int.reduceLT,reduceLE,d1]
 refine AM.callI_of (rPages hc) ?_
 rintro r h3 ⟨f3,rfl⟩
 have w1:IntKind.i64.wrap (((pageT.getD c 0:Nat):Int)*64)=((pageT.getD c 0*64:Nat):Int):=(wrap64 (by omega) (by omega)).trans (by omega)
 simp -implicitDefEqProofs (disch:=first|exact dz _|fail) only [↓AM.R0,AM.R1,AM.R2,reduceAdd,reduceLeDiff,reduceEqDiff,reduceToNat,Nat.reduceLT,↓reduceIte,reduceEq,Int.reduceLT,reduceLE,w1]
 refine AM.callI_of (rWords hc) ?_
 rintro r h4 ⟨f4,rfl⟩
 have w2:((pageT.getD c 0*64:Nat):Int).tdiv ((sizeT.getD c 0:Nat):Int)=((cellT.getD c 0:Nat):Int):=by rw [←t7];rfl
 have w3:IntKind.i64.wrap ((cellT.getD c 0:Nat):Int)=((cellT.getD c 0:Nat):Int):=wrap64 (by omega) (by omega)
 have hw:((sizeT.getD c 0:Nat):Int)≠0:=by omega
 simp -implicitDefEqProofs (disch:=first|exact dz _|fail) only [↓AM.R0,AM.R1,AM.R2,reduceAdd,reduceLeDiff,reduceEqDiff,reduceToNat,Nat.reduceLT,↓reduceIte,reduceEq,Int.reduceLT,reduceLE,w2,w3]
 subst hQ
 exact ⟨(f2.trans f3).trans f4,rfl⟩
set_option maxHeartbeats 2000000 in
theorem rDocOf {h:AHeap} {w:Nat} (hw:1≤w) (hw2:w≤1024):CallP AP 91 [.int .i64 (w:Int)] h fun r h'=>HFrame h h' [] []∧r=if w≤64 then .tup [.int .i64 (clsOf w:Nat),.int .i64 0] else .tup [.int .i64 0,.int .i64 2]:=by
 refine callP (rfl:Tr.get AP 91=some A91) ?_
 generalize hQ:(fun (r:AVal) (h':AHeap)=>_)=Q
 have d1:decide ((w:Int)<1)=false:=decide_eq_false (by omega)
 simp -implicitDefEqProofs (disch:=first|exact dz _|fail) only [↓AM.R0,AM.R1,AM.R2,reduceAdd,reduceLeDiff,reduceEqDiff,reduceToNat,Nat.reduceLT,↓reduceIte,reduceEq,Int.reduceLT,reduceLE,d1]
 have hno:∀ x,x<16→(w≤sizeT.getD x 0↔(w≤64∧clsOf w≤x)):=fun x hx=>by
  by_cases h64:w≤64
  ·obtain ⟨c1,c2⟩:=cls_ok w hw h64
   have:=c2 x hx
   omega
  ·have:=(tabs x hx).2.1
   omega
 have hcl:w≤64→clsOf w<16:=fun h64=>(cls_ok w hw h64).1
 refine AM.loopI_of (fun k e h'=>∃ x:Nat,k+x=16∧HFrame h h' [] []∧e.val 0=.int .i64 (w:Int)∧e.val 4=.int .i64 (x:Int)∧(w≤64→x≤clsOf w)) 16 ?_ ?_
 ·refine ⟨0,by omega,HFrame.refl (by simp),?_,?_,fun _=>by omega⟩<;>(simp -implicitDefEqProofs (disch:=first|exact dz _|fail) only [↓AM.R0,AM.R1,AM.R2,reduceAdd,reduceLeDiff,reduceEqDiff,reduceToNat,Nat.reduceLT,↓reduceIte,reduceEq,Int.reduceLT,reduceLE])<;>rfl
 ·rintro k e h' ⟨x,hk,F,y0,y4,hx⟩
  simp -implicitDefEqProofs (disch:=first|exact dz _|fail) only [↓AM.R0,AM.R1,AM.R2,reduceAdd,reduceLeDiff,reduceEqDiff,reduceToNat,Nat.reduceLT,↓reduceIte,reduceEq,Int.reduceLT,reduceLE,y4]
  refine AM.cI_bool (fun hb=>?_) (fun hb=>?_)
  ·have hx16:x<16:=by simp only [decide_eq_true_eq] at hb;omega
   have w5:IntKind.i64.wrap ((x:Int)+1)=((x+1:Nat):Int):=(wrap64 (by omega) (by omega)).trans (by omega)
   simp -implicitDefEqProofs (disch:=first|exact dz _|fail) only [↓AM.R0,AM.R1,AM.R2,reduceAdd,reduceLeDiff,reduceEqDiff,reduceToNat,Nat.reduceLT,↓reduceIte,reduceEq,Int.reduceLT,reduceLE,y4]
   refine AM.callI_of (rWords hx16) ?_
   rintro r h2 ⟨f2,rfl⟩
   have hh:=hno x hx16
   simp -implicitDefEqProofs (disch:=first|exact dz _|fail) only [↓AM.R0,AM.R1,AM.R2,reduceAdd,reduceLeDiff,reduceEqDiff,reduceToNat,Nat.reduceLT,↓reduceIte,reduceEq,Int.reduceLT,reduceLE,y0]
   refine AM.cI_bool (fun hc=>?_) (fun hc=>?_)
   ·simp only [decide_eq_true_eq] at hc
    have h1:=hh.1 (by omega)
    have h2:=hx h1.1
    simp -implicitDefEqProofs (disch:=first|exact dz _|fail) only [↓AM.R0,AM.R1,AM.R2,reduceAdd,reduceLeDiff,reduceEqDiff,reduceToNat,Nat.reduceLT,↓reduceIte,reduceEq,Int.reduceLT,reduceLE,y4]
    subst hQ
    refine ⟨F.trans f2,?_⟩
    rw [if_pos h1.1,show clsOf w=x by omega]
   ·simp only [decide_eq_false_iff_not] at hc
    simp -implicitDefEqProofs (disch:=first|exact dz _|fail) only [↓AM.R0,AM.R1,AM.R2,reduceAdd,reduceLeDiff,reduceEqDiff,reduceToNat,Nat.reduceLT,↓reduceIte,reduceEq,Int.reduceLT,reduceLE,y0,y4,w5]
    refine ⟨k-1,by omega,x+1,by omega,F.trans f2,rfl,fun h64=>?_⟩
    have:=hx h64
    rcases Nat.lt_or_ge x (clsOf w) with z | z
    ·omega
    ·exact absurd (hh.2 ⟨h64,z⟩) (by omega)
  ·have hx16:¬ x<16:=by simp only [decide_eq_false_iff_not] at hb;omega
   simp -implicitDefEqProofs (disch:=first|exact dz _|fail) only [↓AM.R0,AM.R1,AM.R2,reduceAdd,reduceLeDiff,reduceEqDiff,reduceToNat,Nat.reduceLT,↓reduceIte,reduceEq,Int.reduceLT,reduceLE]
   subst hQ
   refine ⟨F,?_⟩
   rw [if_neg]
   intro h64
   have:=hx h64
   have:=hcl h64
   omega
def boolsV (n u:Nat):List AVal:=(List.range n).map fun k=>.bool (u.testBit k)
theorem bools_at {n u k:Nat} (h:k<n):(boolsV n u)[k]?=some (.bool (u.testBit k)):=by unfold boolsV;rw [List.getElem?_map,List.getElem?_range h];rfl
theorem bools_len (n u:Nat):(boolsV n u).length=n:=by simp [boolsV]
def holdI (w:Option Nat):Int:=match w with
 | none=>-1
 | some p=>(p:Int)
def Blk.rws (b:Blk):Nat:=if b.c=-2 then 1 else b.ws
def encRB (p:Blk×Nat):List AVal:=[.int .i64 (p.1.a:Int),.int .i64 p.1.c,.int .i64 (p.1.rws:Int),.sl p.2 0 0 p.1.nc 1,.int .i64 (holdI p.1.w)]
def freeI (b:Blk):Int:=if ∃ k,k<b.nc∧b.u.testBit k=false then (lowZ b.u:Int) else -1
set_option maxHeartbeats 2000000 in
theorem rFree {h:AHeap} {b:Blk} {i:Nat} (hu:b.u<18446744073709551616) (hn:b.nc≤64) (g1:h.get i=.cells 0 false (boolsV b.nc b.u)) (l1:i<h.n):CallP AP 94 [.agg (encRB (b,i))] h fun r h'=>HFrame h h' [] []∧r=.int .i64 (freeI b):=by
 refine callP (rfl:Tr.get AP 94=some A94) ?_
 generalize hQ:(fun (r:AVal) (h':AHeap)=>_)=Q
 simp -implicitDefEqProofs (disch:=first|exact dz _|fail) only [↓AM.R0,AM.R1,AM.R2,reduceAdd,reduceLeDiff,reduceEqDiff,reduceToNat,Nat.reduceLT,↓reduceIte,reduceEq,Int.reduceLT,reduceLE,encRB]
 have f2:=(HFrame.refl (h:=h) (F:=[]) (by simp)).pushTmp (.cells 0 false [.int .i64 (b.a:Int),.int .i64 b.c,.int .i64 (b.rws:Int),.sl i 0 0 b.nc 1,.int .i64 (holdI b.w)])
 have g2:(h.push (.cells 0 false [.int .i64 (b.a:Int),.int .i64 b.c,.int .i64 (b.rws:Int),.sl i 0 0 b.nc 1,.int .i64 (holdI b.w)])).get h.n=.cells 0 false [.int .i64 (b.a:Int),.int .i64 b.c,.int .i64 (b.rws:Int),.sl i 0 0 b.nc 1,.int .i64 (holdI b.w)]:=AHeap.get_push_same _ _
 have n2:(h.push (.cells 0 false [.int .i64 (b.a:Int),.int .i64 b.c,.int .i64 (b.rws:Int),.sl i 0 0 b.nc 1,.int .i64 (holdI b.w)])).n=h.n+1:=by simp
 have g3:=(f2.get i l1 (by simp)).trans g1
 generalize h.push (.cells 0 false [.int .i64 (b.a:Int),.int .i64 b.c,.int .i64 (b.rws:Int),.sl i 0 0 b.nc 1,.int .i64 (holdI b.w)])=h2 at *
 have l2:h.n<h2.n:=by omega
 have l3:i<h2.n:=by omega
 refine AM.loopI_of (fun k e h'=>∃ x:Nat,k+x=b.nc∧h'=h2∧e.val 1=.ptr h.n 0 0∧e.val 3=.int .i64 (x:Int)∧∀ j,j<x→b.u.testBit j=true) b.nc ?_ ?_
 ·refine ⟨0,by omega,rfl,?_,?_,fun j hj=>by omega⟩<;>(simp -implicitDefEqProofs (disch:=first|exact dz _|fail) only [↓AM.R0,AM.R1,AM.R2,reduceAdd,reduceLeDiff,reduceEqDiff,reduceToNat,Nat.reduceLT,↓reduceIte,reduceEq,Int.reduceLT,reduceLE])<;>rfl
 ·rintro k e h' ⟨x,hk,hh,y1,y3,hall⟩
  rw [hh]
  simp -implicitDefEqProofs (disch:=first|exact dz _|fail) only [↓AM.R0,AM.R1,AM.R2,reduceAdd,reduceLeDiff,reduceEqDiff,reduceToNat,Nat.reduceLT,↓reduceIte,reduceEq,Int.reduceLT,reduceLE,y1,y3,g2]
  refine AM.cI_bool (fun hb=>?_) (fun hb=>?_)
  ·have hx:x<b.nc:=by simp only [decide_eq_true_eq] at hb;omega
   have x1:=ix1 g3 (len:=b.nc) (i:=x) hx
   have x2:=bools_at (u:=b.u) hx
   have w5:IntKind.i64.wrap ((x:Int)+1)=((x+1:Nat):Int):=(wrap64 (by omega) (by omega)).trans (by omega)
   simp -implicitDefEqProofs (disch:=first|exact dz _|fail) only [↓AM.R0,AM.R1,AM.R2,reduceAdd,reduceLeDiff,reduceEqDiff,reduceToNat,Nat.reduceLT,↓reduceIte,reduceEq,Int.reduceLT,reduceLE,y1,y3,g2,x1,g3,x2]
   refine AM.cI_bool (fun hc=>?_) (fun hc=>?_)
   ·have hbit:b.u.testBit x=false:=by simpa using hc
    simp -implicitDefEqProofs (disch:=first|exact dz _|fail) only [↓AM.R0,AM.R1,AM.R2,reduceAdd,reduceLeDiff,reduceEqDiff,reduceToNat,Nat.reduceLT,↓reduceIte,reduceEq,Int.reduceLT,reduceLE,y3]
    subst hQ
    refine ⟨f2,?_⟩
    have hlow:lowZ b.u=x:=low_first hu (by omega) hbit hall
    unfold freeI
    rw [if_pos ⟨x,hx,hbit⟩,hlow]
   ·have hbit:b.u.testBit x=true:=by simpa using hc
    simp -implicitDefEqProofs (disch:=first|exact dz _|fail) only [↓AM.R0,AM.R1,AM.R2,reduceAdd,reduceLeDiff,reduceEqDiff,reduceToNat,Nat.reduceLT,↓reduceIte,reduceEq,Int.reduceLT,reduceLE,y1,y3,w5]
    refine ⟨k-1,by omega,x+1,by omega,rfl,fun j hj=>?_⟩
    rcases Nat.lt_or_ge j x with q | q
    ·exact hall j q
    ·rw [show j=x by omega];exact hbit
  ·have hx:¬ x<b.nc:=by simp only [decide_eq_false_iff_not] at hb;omega
   simp -implicitDefEqProofs (disch:=first|exact dz _|fail) only [↓AM.R0,AM.R1,AM.R2,reduceAdd,reduceLeDiff,reduceEqDiff,reduceToNat,Nat.reduceLT,↓reduceIte,reduceEq,Int.reduceLT,reduceLE]
   subst hQ
   refine ⟨f2,?_⟩
   unfold freeI
   rw [if_neg]
   rintro ⟨j,hj,hbit⟩
   rw [hall j (by omega)] at hbit;cases hbit
end Go.Proofs.YthillgheddpmhaaDoor.Pg
namespace Go.Proofs.YthillgheddpmhaaDoor.Pg
open Go Go.AM Go.Proofs.YthillgheddpmhaaDoor.AmGJ
open Nat (reduceAdd reduceLeDiff reduceEqDiff)
open Int (reduceToNat reduceEq reduceLE)
attribute [local irreducible] pc
def Cm.L0 (m:Cm):List Sp:=m.bl.map fun b=>⟨b.a,b.k,0⟩
structure RI where
 c:Nat
 u:Nat
 r:Nat
 b:Nat
 vt:AVal
 Gt:List Nat
 v:AVal
 G:List Nat
 K:Nat→Nat
structure RC (h:AHeap) (g:RI) (rb:List (Blk×Nat)) (m:Cm):Prop where
 I:CInv m
 T:RTab h g.u g.r g.b m.n m.f m.L0 g.vt g.Gt
 obj:h.get g.c=.cells 0 false [.ptr g.u 0 0,g.v,.int .i64 m.pr]
 so:SlOf h 5 encRB g.v rb g.G
 us:∀ p,p∈rb→h.get p.2=.cells 0 false (boolsV p.1.nc p.1.u)
 pm:(rb.map (·.1)).Perm m.bl
 nd:(rb.map (·.2)).Nodup
 k0:∀ j,g.K j≠0→j<h.n
 kc:g.K g.c=1
 kG:∀ j,j∈g.G→g.K j=2
 ku:∀ p,p∈rb→g.K p.2=3
 kt:∀ j,j∈[g.u,g.r,g.b]++g.Gt→g.K j=4
variable {h h':AHeap} {g g':RI} {rb:List (Blk×Nat)} {m:Cm}
theorem RC.keepD (R:RC h g rb m) {A A':List Nat} (F:HFrame h h' A A') (d:∀ j,g.K j≠0→j ∉ A):RC h' g rb m:=by
 have G:∀ j,g.K j≠0→h'.get j=h.get j:=fun j k=>F.get j (R.k0 j k) (d j k)
 exact ⟨R.I,R.T.keepD F fun j hj=>d j (by rw [R.kt j hj];decide),(G _ (by rw [R.kc];decide)).trans R.obj,R.so.frame F.n fun j hj=>G j (by rw [R.kG j hj];decide),fun p hp=>(G _ (by rw [R.ku p hp];decide)).trans (R.us p hp),R.pm,R.nd,fun j k=>Nat.lt_of_lt_of_le (R.k0 j k) F.n,R.kc,R.kG,R.ku,R.kt⟩
theorem RC.keep (R:RC h g rb m) {A':List Nat} (F:HFrame h h' [] A'):RC h' g rb m:=R.keepD F fun _ _=>by simp
theorem RC.mem (R:RC h g rb m) {p:Blk×Nat} (hp:p∈rb):p.1∈m.bl:=R.pm.mem_iff.1 (List.mem_map.2 ⟨p,hp,rfl⟩)
theorem RC.has (R:RC h g rb m) {b:Blk} (hb:b∈m.bl):∃ i,(b,i)∈rb:=by
 obtain ⟨p,hp,e⟩:=List.mem_map.1 (R.pm.mem_iff.2 hb)
 exact ⟨p.2,by rw [←e];exact hp⟩
theorem RC.n2 (R:RC h g rb m):m.n≤4096:=R.T.R.n2
theorem RC.len (R:RC h g rb m):rb.length≤4096:=by
 have h1:=R.pm.length_eq
 have h2:=R.I.S.len
 have h3:=R.n2
 unfold Cm.L at h2
 rw [List.length_map] at h1 h2
 omega
theorem nc_le (I:CInv m) {b:Blk} (hb:b∈m.bl):b.nc≤64∧b.u<2^b.nc∧1≤b.rws∧(b.c≠-2→b.rws=b.ws):=by
 unfold Blk.nc Blk.rws
 rcases I.B b hb with ⟨e,e2,_⟩ | ⟨e,e2,_⟩ | ⟨c,h1,e,_,e4⟩
 ·rw [if_pos (by omega),if_neg (by omega),if_pos e,e2];exact ⟨by omega,by decide,by omega,fun h=>absurd e h⟩
 ·have:=(I.bd hb).1
  rw [if_pos (by omega),if_pos e,if_neg (by omega)]
  refine ⟨by omega,by omega,?_,fun _=>rfl⟩
  unfold Blk.ws;rw [if_pos (by omega)];omega
 ·have:=tabs c h1
  rw [if_neg (by omega),if_neg (by omega),e,Int.toNat_natCast]
  refine ⟨by omega,e4,?_,fun _=>rfl⟩
  unfold Blk.ws;rw [if_neg (by omega),e,Int.toNat_natCast];omega
theorem rws_le (I:CInv m) (hn:m.n≤4096) {b:Blk} (hb:b∈m.bl):b.rws≤262144:=by
 unfold Blk.rws
 split
 ·omega
 ·rename_i hc;exact (ws_bd I hn hb hc).2
theorem find_in (I:CInv m) {b:Blk} (hb:b∈m.bl) (hc:b.c≠-2) {n:Nat} (h1:b.a≤n / 64) (h2:n / 64<b.a+b.k):m.find (n:Int)=some (b,(n-b.a*64) / b.ws):=by
 unfold Cm.find
 rw [if_neg (by omega),Int.toNat_natCast]
 have hf:=I.S.find (s:=b.sp) (List.mem_map.2 ⟨b,hb,rfl⟩) (q:=n / 64) h1 h2
 rw [findF_find] at hf
 cases e:m.bl.find? (fun b'=>decide (b'.a≤n / 64)&&decide (n / 64<b'.a+b'.k)) with
 | none=>rw [e] at hf;cases hf
 | some b' =>
  rw [e] at hf
  simp only [Option.map_some,Option.some.injEq] at hf
  have hb':=List.mem_of_find?_eq_some e
  have:b'.a=b.a:=congrArg Sp.a hf
  obtain rfl:=I.same hb' hb this
  simp only
  rw [if_neg hc]
theorem cell_of (I:CInv m) {b:Blk} (hb:b∈m.bl) {n:Nat} (h1:b.a*64≤n) (hbit:b.u.testBit ((n-b.a*64) / b.rws)=true):m.cell (n:Int)=some (b,(n-b.a*64) / b.rws):=by
 have hb2:=I.bit hb hbit
 have hr:=(nc_le I hb).2.2.2 hb2.1
 rw [hr] at hbit hb2 ⊢
 have h3:n-b.a*64<((n-b.a*64) / b.ws+1)*b.ws:=by
  have q1:=Nat.div_add_mod (n-b.a*64) b.ws
  have q2:=Nat.mod_lt (n-b.a*64) (show b.ws > 0 by omega)
  rw [Nat.mul_comm] at q1
  rw [Nat.add_mul,Nat.one_mul];omega
 rw [Nat.add_mul,Nat.one_mul] at h3
 have hf:=find_in I hb hb2.1 (n:=n) (by omega) (by omega)
 unfold Cm.cell
 rw [hf];simp only [hbit,if_true]
theorem cell_mem {x:Int} {b:Blk} {k:Nat} (h:m.cell x=some (b,k)):b∈m.bl∧b.c≠-2∧∃ n:Nat,x=n∧b.a*64≤n∧k=(n-b.a*64) / b.ws∧b.u.testBit k=true:=by
 unfold Cm.cell at h
 cases hf:m.find x with
 | none=>rw [hf] at h;cases h
 | some p =>
  obtain ⟨b',k'⟩:=p
  rw [hf] at h
  simp only at h
  split at h
  ·rename_i ht
   cases h
   obtain ⟨h1,h2,n,h3,h4,h5,h6⟩:=find_some hf
   exact ⟨h1,h2,n,h3,by omega,h6,ht⟩
  ·cases h
abbrev z5:List AVal:=[.int .i64 0,.int .i64 0,.int .i64 0,.nils,.int .i64 0]
set_option maxHeartbeats 8000000 in
theorem rFind (R:RC h g rb m) (x:Int) (hx:-9223372036854775808≤x∧x≤9223372036854775807):CallP AP 79 [.ptr g.c 0 0,.int .i64 x] h fun r h'=>HFrame h h' [] [] ∧
  ((m.cell x=none∧r=.tup [.int .i64 (-1),.int .i64 0])∨∃ i p k,rb[i]?=some p∧m.cell x=some (p.1,k)∧r=.tup [.int .i64 (i:Nat),.int .i64 (k:Nat)]):=by
 refine callP (rfl:Tr.get AP 79=some A79) ?_
 generalize hQ:(fun (r:AVal) (h':AHeap)=>_)=Q
 have hn2:=R.n2
 have hlen:=R.len
 simp -implicitDefEqProofs (disch:=first|exact dz _|fail) only [↓AM.R0,AM.R1,AM.R2,reduceAdd,reduceLeDiff,reduceEqDiff,reduceToNat,Nat.reduceLT,↓reduceIte,reduceEq,Int.reduceLT,reduceLE]
 refine AM.loopI_of (fun k e h'=>∃ i:Nat,k+i=rb.length∧e.val 0=.ptr g.c 0 0∧e.val 1=.int .i64 x∧e.val 6=.int .i64 (i:Int)∧HFrame h h' [] []∧∀ j p k,j<i→rb[j]?=some p→m.cell x≠some (p.1,k)) rb.length ?_ ?_
 ·refine ⟨0,by omega,?_,?_,?_,HFrame.refl (by simp),fun j p k hj=>by omega⟩<;>(simp -implicitDefEqProofs (disch:=first|exact dz _|fail) only [↓AM.R0,AM.R1,AM.R2,reduceAdd,reduceLeDiff,reduceEqDiff,reduceToNat,Nat.reduceLT,↓reduceIte,reduceEq,Int.reduceLT,reduceLE])<;>rfl
 ·rintro k e h' ⟨i,hk,y0,y1,y6,F,hno⟩
  have R':=R.keep F
  have g1:=R'.obj
  have lc:g.c<h'.n:=R'.k0 _ (by rw [R.kc];decide)
  simp -implicitDefEqProofs (disch:=first|exact dz _|fail) only [↓AM.R0,AM.R1,AM.R2,reduceAdd,reduceLeDiff,reduceEqDiff,reduceToNat,Nat.reduceLT,↓reduceIte,reduceEq,Int.reduceLT,reduceLE,y0,y6,g1,R'.so.len]
  refine AM.cI_bool (fun hc=>?_) (fun hc=>?_)
  ·simp only [decide_eq_true_eq] at hc
   obtain ⟨p,hp⟩:∃ p,rb[i]?=some p:=⟨_,List.getElem?_eq_getElem (by omega)⟩
   have hpm:=List.mem_of_getElem? hp
   have hb:=R.mem hpm
   have hbd:=R.I.bd hb
   obtain ⟨hnc,hu,hr1,hr2⟩:=nc_le R.I hb
   have hr3:=rws_le R.I hn2 hb
   obtain ⟨id,gn,off,vs,ro,x1,x2,x3,x4,x5⟩:=R'.so.rd.ix (fun _=>rfl) hp .i64
   have hx4:off+5≤vs.length:=x4
   have fq:=((HFrame.refl (h:=h') (F:=[]) (by simp)).pushTmp (.cells 0 false z5)).setTmp (i:=h'.n) (Nat.le_refl _) (.cells 0 false (encRB p))
   have gq:((h'.push (.cells 0 false z5)).set h'.n (.cells 0 false (encRB p))).get h'.n=.cells 0 false (encRB p):=AHeap.get_set_same _ _ _
   have nq:((h'.push (.cells 0 false z5)).set h'.n (.cells 0 false (encRB p))).n=h'.n+1:=by simp
   have F2:=F.trans fq
   have gu:=(fq.get p.2 (R'.k0 _ (by rw [R.ku p hpm];decide)) (by simp)).trans (R'.us p hpm)
   simp only [encRB] at fq gq nq F2 gu
   have w1:IntKind.i64.wrap ((i:Int)+1)=((i+1:Nat):Int):=(wrap64 (by omega) (by omega)).trans (by omega)
   have w2:IntKind.i64.wrap ((p.1.a:Int)*64)=((p.1.a*64:Nat):Int):=(wrap64 (by omega) (by omega)).trans (by omega)
   simp -implicitDefEqProofs (disch:=first|exact dz _|fail) only [↓AM.R0,AM.R1,AM.R2,reduceAdd,reduceLeDiff,reduceEqDiff,reduceToNat,Nat.reduceLT,↓reduceIte,reduceEq,Int.reduceLT,reduceLE,y0,y1,y6,g1,x1,x2,x4,x5,encRB,w2]
   generalize (h'.push (.cells 0 false z5)).set h'.n (.cells 0 false [.int .i64 (p.1.a:Int),.int .i64 p.1.c,.int .i64 (p.1.rws:Int),.sl p.2 0 0 p.1.nc 1,.int .i64 (holdI p.1.w)])=h5 at *
   have skip:(∀ k',m.cell x≠some (p.1,k'))→∀ j q k',j<i+1→rb[j]?=some q→m.cell x≠some (q.1,k'):=fun hne j q k'' hj hq hcl=>by
    rcases Nat.lt_or_ge j i with z | z
    ·exact hno j q k'' z hq hcl
    ·obtain rfl:j=i:=by omega
     rw [hp] at hq;cases hq
     exact hne k'' hcl
   rcases Int.lt_or_le x ((p.1.a*64:Nat):Int) with c1 | c1
   ·have d1:decide (x<((p.1.a*64:Nat):Int))=true:=decide_eq_true c1
    simp -implicitDefEqProofs (disch:=first|exact dz _|fail) only [↓AM.R0,AM.R1,AM.R2,reduceAdd,reduceLeDiff,reduceEqDiff,reduceToNat,Nat.reduceLT,↓reduceIte,reduceEq,Int.reduceLT,reduceLE,y0,y1,y6,d1,w1]
    exact ⟨k-1,by omega,i+1,by omega,rfl,F2,skip fun k' hcl=>by
     obtain ⟨_,_,n,e1,e2,_⟩:=cell_mem hcl
     omega⟩
   have d1:decide (x<((p.1.a*64:Nat):Int))=false:=decide_eq_false (by omega)
   obtain ⟨x,rfl⟩:∃ a:Nat,x=a:=⟨x.toNat,by omega⟩
   rcases Nat.eq_zero_or_pos p.1.nc with c2 | c2
   ·have d2:decide (((p.1.nc:Nat):Int)=0)=true:=decide_eq_true (by omega)
    simp -implicitDefEqProofs (disch:=first|exact dz _|fail) only [↓AM.R0,AM.R1,AM.R2,reduceAdd,reduceLeDiff,reduceEqDiff,reduceToNat,Nat.reduceLT,↓reduceIte,reduceEq,Int.reduceLT,reduceLE,y0,y1,y6,d1,d2,gq,w1]
    exact ⟨k-1,by omega,i+1,by omega,rfl,F2,skip fun k' hcl=>by
     obtain ⟨_,_,n,_,_,_,e4⟩:=cell_mem hcl
     rw [c2] at hu
     have:p.1.u=0:=by simpa using hu
     rw [this] at e4;simp at e4⟩
   have d2:decide (((p.1.nc:Nat):Int)=0)=false:=decide_eq_false (by omega)
   have w3:IntKind.i64.wrap ((x:Int)-((p.1.a*64:Nat):Int))=((x-p.1.a*64:Nat):Int):=(wrap64 (by omega) (by omega)).trans (by omega)
   have w4:((x-p.1.a*64:Nat):Int).tdiv ((p.1.rws:Nat):Int)=(((x-p.1.a*64) / p.1.rws:Nat):Int):=rfl
   have hle:(x-p.1.a*64) / p.1.rws≤x-p.1.a*64:=Nat.div_le_self _ _
   have w6:((p.1.rws:Nat):Int)≠0:=by omega
   have hcof:=cell_of R.I hb (n:=x) (by omega)
   have hcl2:∀ k',m.cell x=some (p.1,k')→k'=(x-p.1.a*64) / p.1.rws∧p.1.u.testBit k'=true:=fun k' hcl=>by
    obtain ⟨_,q2,n,q3,_,q5,q6⟩:=cell_mem hcl
    obtain rfl:x=n:=by omega
    rw [hr2 q2];exact ⟨q5,q6⟩
   generalize (x-p.1.a*64) / p.1.rws=kk at *
   have w5:IntKind.i64.wrap ((kk:Nat):Int)=((kk:Nat):Int):=wrap64 (by omega) (by omega)
   rcases Nat.lt_or_ge kk p.1.nc with c3 | c3
   ·have d3:decide ((kk:Int)<((p.1.nc:Nat):Int))=true:=decide_eq_true (by omega)
    have xb:=ix1 gu (len:=p.1.nc) (i:=kk) c3
    have xv:=bools_at (u:=p.1.u) c3
    have lu:p.2<h5.n:=by have:=R'.k0 p.2 (by rw [R.ku p hpm];decide);omega
    simp -implicitDefEqProofs (disch:=first|exact dz _|fail) only [↓AM.R0,AM.R1,AM.R2,reduceAdd,reduceLeDiff,reduceEqDiff,reduceToNat,Nat.reduceLT,↓reduceIte,reduceEq,Int.reduceLT,reduceLE,y0,y1,y6,d1,d2,d3,gq,w3,w4,w5,xb,gu,xv]
    refine AM.cI_bool (fun hbit=>?_) (fun hbit=>?_)
    ·simp -implicitDefEqProofs (disch:=first|exact dz _|fail) only [↓AM.R0,AM.R1,AM.R2,reduceAdd,reduceLeDiff,reduceEqDiff,reduceToNat,Nat.reduceLT,↓reduceIte,reduceEq,Int.reduceLT,reduceLE,y6]
     subst hQ
     exact ⟨F2,.inr ⟨i,p,kk,hp,hcof hbit,rfl⟩⟩
    ·simp -implicitDefEqProofs (disch:=first|exact dz _|fail) only [↓AM.R0,AM.R1,AM.R2,reduceAdd,reduceLeDiff,reduceEqDiff,reduceToNat,Nat.reduceLT,↓reduceIte,reduceEq,Int.reduceLT,reduceLE,y0,y1,y6,w1]
     exact ⟨k-1,by omega,i+1,by omega,rfl,F2,skip fun k' hcl=>by
      obtain ⟨q1,q2⟩:=hcl2 k' hcl
      rw [q1,hbit] at q2;cases q2⟩
   ·have d3:decide ((kk:Int)<((p.1.nc:Nat):Int))=false:=decide_eq_false (by omega)
    simp -implicitDefEqProofs (disch:=first|exact dz _|fail) only [↓AM.R0,AM.R1,AM.R2,reduceAdd,reduceLeDiff,reduceEqDiff,reduceToNat,Nat.reduceLT,↓reduceIte,reduceEq,Int.reduceLT,reduceLE,y0,y1,y6,d1,d2,d3,gq,w3,w4,w5,w1]
    exact ⟨k-1,by omega,i+1,by omega,rfl,F2,skip fun k' hcl=>by
     obtain ⟨q1,q2⟩:=hcl2 k' hcl
     rw [q1,Nat.testBit_lt_two_pow (Nat.lt_of_lt_of_le hu (Nat.pow_le_pow_right (by decide) c3))] at q2;cases q2⟩
  ·simp only [decide_eq_false_iff_not] at hc
   simp -implicitDefEqProofs (disch:=first|exact dz _|fail) only [↓AM.R0,AM.R1,AM.R2,reduceAdd,reduceLeDiff,reduceEqDiff,reduceToNat,Nat.reduceLT,↓reduceIte,reduceEq,Int.reduceLT,reduceLE]
   subst hQ
   refine ⟨F,.inl ⟨?_,rfl⟩⟩
   cases hcl:m.cell x with
   | none=>rfl
   | some q =>
    obtain ⟨b,k'⟩:=q
    obtain ⟨hb,_⟩:=cell_mem hcl
    obtain ⟨j,hj⟩:=R.has hb
    obtain ⟨i',hi'⟩:=List.getElem?_of_mem hj
    exact absurd hcl (hno i' (b,j) k' (by have:=(List.getElem?_eq_some_iff.1 hi').1;omega) hi')
end Go.Proofs.YthillgheddpmhaaDoor.Pg
namespace Go.Proofs.YthillgheddpmhaaDoor.Pg
open Go Go.AM Go.Proofs.YthillgheddpmhaaDoor.AmGJ
open Nat (reduceAdd reduceLeDiff reduceEqDiff)
open Int (reduceToNat reduceEq reduceLE)
theorem pc_snoc (k x:Nat):pc (k+1) x=pc k x+if x.testBit k then 1 else 0:=by
 rw [show k+1=1+k by omega,Nat.add_comm 1 k,show pc (k+1) x=pc (1+k) x by rw [Nat.add_comm]]
 have h:=pc_add 1 k x
 rw [show k+1=1+k by omega] at h
 rw [h]
 have h2:pc 1 (x / 2^k)=x / 2^k%2:=by rw [pc,pc,Nat.add_zero]
 rw [h2,Nat.testBit_eq_decide_div_mod_eq]
 rcases Nat.mod_two_eq_zero_or_one (x / 2^k) with e | e<;>rw [e]<;>rfl
theorem pc_top {n u:Nat} (hn:n≤64) (hu:u<2^n):pc n u=pc 64 u:=by
 have h:=pc_add (64-n) n u
 rw [show n+(64-n)=64 by omega,Nat.div_eq_of_lt hu,pc_z] at h
 omega
attribute [local irreducible] pc
variable {h h':AHeap} {g g':RI} {rb:List (Blk×Nat)} {m:Cm}
set_option maxHeartbeats 4000000 in
theorem rFindC (R:RC h g rb m) (x:Int) (hx:-9223372036854775808≤x∧x≤9223372036854775807):CallP AP 53 [.ptr g.c 0 0,.int .i64 x] h fun r h'=>HFrame h h' [] []∧r=encC (m.cell x):=by
 refine callP (rfl:Tr.get AP 53=some A53) ?_
 generalize hQ:(fun (r:AVal) (h':AHeap)=>_)=Q
 simp -implicitDefEqProofs (disch:=first|exact dz _|fail) only [↓AM.R0,AM.R1,AM.R2,reduceAdd,reduceLeDiff,reduceEqDiff,reduceToNat,Nat.reduceLT,↓reduceIte,reduceEq,Int.reduceLT,reduceLE]
 refine AM.callI_of (rFind R x hx) ?_
 rintro r h2 ⟨f2,⟨hcl,rfl⟩ | ⟨i,p,k,hi,hcl,rfl⟩⟩
 ·simp -implicitDefEqProofs (disch:=first|exact dz _|fail) only [↓AM.R0,AM.R1,AM.R2,reduceAdd,reduceLeDiff,reduceEqDiff,reduceToNat,Nat.reduceLT,↓reduceIte,reduceEq,Int.reduceLT,reduceLE]
  subst hQ
  exact ⟨f2,by rw [hcl];rfl⟩
 ·have R2:=R.keep f2
  have hn2:=R.n2
  have hlen:=R.len
  have hpm:=List.mem_of_getElem? hi
  have hb:=R.mem hpm
  have hbd:=R.I.bd hb
  obtain ⟨_,hc,n,hxn,hn,hk,hbit⟩:=cell_mem hcl
  have hbk:=R.I.bit hb hbit
  have hr:=(nc_le R.I hb).2.2.2 hc
  have hil:=(List.getElem?_eq_some_iff.1 hi).1
  have g1:=R2.obj
  have lc:g.c<h2.n:=R2.k0 _ (by rw [R.kc];decide)
  obtain ⟨id,gn,off,vs,ro,x1,x2,x3,x4,x5⟩:=R2.so.rd.ix (fun _=>rfl) hi .i64
  have hx4:off+5≤vs.length:=x4
  have dneg:decide (((i:Nat):Int)<0)=false:=decide_eq_false (by omega)
  have w1:IntKind.i64.wrap ((p.1.a:Int)*64)=((p.1.a*64:Nat):Int):=(wrap64 (by omega) (by omega)).trans (by omega)
  have w2:IntKind.i64.wrap ((k:Int)*((p.1.rws:Nat):Int))=((k*p.1.ws:Nat):Int):=by rw [hr,←Int.natCast_mul];exact wrap64 (by omega) (by omega)
  have w3:IntKind.i64.wrap (((p.1.a*64:Nat):Int)+((k*p.1.ws:Nat):Int))=((p.1.a*64+k*p.1.ws:Nat):Int):=(wrap64 (by omega) (by omega)).trans (by omega)
  simp -implicitDefEqProofs (disch:=first|exact dz _|fail) only [↓AM.R0,AM.R1,AM.R2,reduceAdd,reduceLeDiff,reduceEqDiff,reduceToNat,Nat.reduceLT,↓reduceIte,reduceEq,Int.reduceLT,reduceLE,dneg,g1,x1,x2,x4,x5,encRB,w1,w2,w3]
  subst hQ
  refine ⟨(f2.pushTmp _).setTmp f2.n _,?_⟩
  rw [hcl,hr];rfl
theorem L0_find (m:Cm) (x:Int):(findF m.L0 x).isSome=(findF m.L x).isSome:=by
 unfold findF Cm.L0 Cm.L
 rw [List.find?_map,List.find?_map]
 have:((fun s:Sp=>decide ((s.a:Int)≤x)&&decide (x-s.a<s.k)) ∘ fun b:Blk=>(⟨b.a,b.k,0⟩:Sp))=((fun s:Sp=>decide ((s.a:Int)≤x)&&decide (x-s.a<s.k)) ∘ Blk.sp):=rfl
 rw [this]
 cases m.bl.find? ((fun s:Sp=>decide ((s.a:Int)≤x)&&decide (x-s.a<s.k)) ∘ Blk.sp)<;>rfl
theorem rIsUsed (R:RC h g rb m) (x:Int) (hx:-9223372036854775808≤x∧x≤9223372036854775807):CallP AP 54 [.ptr g.c 0 0,.int .i64 x] h fun r h'=>HFrame h h' [] []∧r=.bool (findF m.L x).isSome:=by
 refine callP (rfl:Tr.get AP 54=some A54) ?_
 generalize hQ:(fun (r:AVal) (h':AHeap)=>_)=Q
 have g1:=R.obj
 have lc:g.c<h.n:=R.k0 _ (by rw [R.kc];decide)
 simp -implicitDefEqProofs (disch:=first|exact dz _|fail) only [↓AM.R0,AM.R1,AM.R2,reduceAdd,reduceLeDiff,reduceEqDiff,reduceToNat,Nat.reduceLT,↓reduceIte,reduceEq,Int.reduceLT,reduceLE,g1]
 refine AM.callI_of (rsFind R.T x hx) ?_
 rintro r h2 ⟨f2,rfl⟩
 rw [←L0_find] at hQ
 cases hf:findF m.L0 x with
 | none =>
  have ez:encT zSp=[.int .i64 0,.int .i64 0,.int .i64 0]:=rfl
  simp -implicitDefEqProofs (disch:=first|exact dz _|fail) only [↓AM.R0,AM.R1,AM.R2,reduceAdd,reduceLeDiff,reduceEqDiff,reduceToNat,Nat.reduceLT,↓reduceIte,reduceEq,Int.reduceLT,reduceLE,encF,ez]
  subst hQ
  exact ⟨(f2.pushTmp _).setTmp f2.n _,by rw [hf];rfl⟩
 | some s =>
  simp -implicitDefEqProofs (disch:=first|exact dz _|fail) only [↓AM.R0,AM.R1,AM.R2,reduceAdd,reduceLeDiff,reduceEqDiff,reduceToNat,Nat.reduceLT,↓reduceIte,reduceEq,Int.reduceLT,reduceLE,encF,encT]
  subst hQ
  exact ⟨(f2.pushTmp _).setTmp f2.n _,by rw [hf];rfl⟩
theorem perm_cells (R:RC h g rb m):(rb.map fun p=>pc 64 p.1.u).sum=m.cells∧(rb.map fun p=>pc 64 p.1.u*p.1.ws).sum=m.words:=by
 have h1:=(R.pm.map fun b:Blk=>pc 64 b.u).sum_nat
 have h2:=(R.pm.map fun b:Blk=>pc 64 b.u*b.ws).sum_nat
 rw [List.map_map] at h1 h2
 exact ⟨h1,h2⟩
theorem pc_rws (I:CInv m) {b:Blk} (hb:b∈m.bl):pc 64 b.u*b.rws=pc 64 b.u*b.ws:=by
 by_cases hc:b.c=-2
 ·rcases I.B b hb with ⟨_,e,_⟩ | ⟨e,_⟩ | ⟨c,_,e,_⟩
  ·rw [e,pc_z,Nat.zero_mul,Nat.zero_mul]
  ·omega
  ·omega
 ·rw [(nc_le I hb).2.2.2 hc]
theorem sum_take {α:Type} (f:α→Nat) {l:List α} {i:Nat} {a:α} (h:l[i]?=some a):((l.take (i+1)).map f).sum=((l.take i).map f).sum+f a:=by
 rw [take_snoc h,List.map_append,List.sum_append];simp
set_option maxHeartbeats 8000000 in
theorem rCountsC (R:RC h g rb m) (hc9:m.cells≤262144) (hw9:m.words≤100000000000):CallP AP 55 [.ptr g.c 0 0] h fun r h'=>HFrame h h' [] []∧r=.tup [.int .i64 (m.cells:Nat),.int .i64 (m.words:Nat),.int .i64 (freeN m.f m.n:Nat)]:=by
 refine callP (rfl:Tr.get AP 55=some A55) ?_
 generalize hQ:(fun (r:AVal) (h':AHeap)=>_)=Q
 have hn2:=R.n2
 have hlen:=R.len
 have g1:=R.obj
 have lc:g.c<h.n:=R.k0 _ (by rw [R.kc];decide)
 have hle1:∀ i,((rb.take i).map fun p=>pc 64 p.1.u).sum≤m.cells:=fun i=>by
  rw [←(perm_cells R).1]
  conv=>rhs;rw [←List.take_append_drop i rb,List.map_append,List.sum_append]
  omega
 have hle2:∀ i,((rb.take i).map fun p=>pc 64 p.1.u*p.1.ws).sum≤m.words:=fun i=>by
  rw [←(perm_cells R).2]
  conv=>rhs;rw [←List.take_append_drop i rb,List.map_append,List.sum_append]
  omega
 simp -implicitDefEqProofs (disch:=first|exact dz _|fail) only [↓AM.R0,AM.R1,AM.R2,reduceAdd,reduceLeDiff,reduceEqDiff,reduceToNat,Nat.reduceLT,↓reduceIte,reduceEq,Int.reduceLT,reduceLE]
 refine AM.loopI_of (fun k e h'=>∃ i:Nat,k+i=rb.length∧h'=h∧e.val 0=.ptr g.c 0 0∧e.val 5=.int .i64 (((rb.take i).map fun p=>pc 64 p.1.u).sum:Nat)∧e.val 6=.int .i64 (((rb.take i).map fun p=>pc 64 p.1.u*p.1.ws).sum:Nat)∧e.val 7=.int .i64 (i:Int)) rb.length ?_ ?_
 ·refine ⟨0,by omega,rfl,?_,?_,?_,?_⟩<;>(simp -implicitDefEqProofs (disch:=first|exact dz _|fail) only [↓AM.R0,AM.R1,AM.R2,reduceAdd,reduceLeDiff,reduceEqDiff,reduceToNat,Nat.reduceLT,↓reduceIte,reduceEq,Int.reduceLT,reduceLE])<;>rfl
 ·rintro k e h' ⟨i,hk,hh,y0,y5,y6,y7⟩
  rw [hh]
  simp -implicitDefEqProofs (disch:=first|exact dz _|fail) only [↓AM.R0,AM.R1,AM.R2,reduceAdd,reduceLeDiff,reduceEqDiff,reduceToNat,Nat.reduceLT,↓reduceIte,reduceEq,Int.reduceLT,reduceLE,y0,y7,g1,R.so.len]
  refine AM.cI_bool (fun hc=>?_) (fun hc=>?_)
  ·simp only [decide_eq_true_eq] at hc
   obtain ⟨p,hp⟩:∃ p,rb[i]?=some p:=⟨_,List.getElem?_eq_getElem (by omega)⟩
   have hpm:=List.mem_of_getElem? hp
   have hb:=R.mem hpm
   obtain ⟨hnc,hu,hr1,hr2⟩:=nc_le R.I hb
   have hr3:=rws_le R.I hn2 hb
   obtain ⟨id,gn,off,vs,ro,x1,x2,x3,x4,x5⟩:=R.so.rd.ix (fun _=>rfl) hp .i64
   have hx4:off+5≤vs.length:=x4
   have x05:vs[off+3]?=some (.sl p.2 0 0 p.1.nc 1)∧vs[off+2]?=some (.int .i64 (p.1.rws:Int)):=by
    have t:∀ j,j<5→vs[off+j]?=(encRB p)[j]?:=fun j hj=>by
     rw [←x5,List.getElem?_take,if_pos hj,List.getElem?_drop]
    exact ⟨t 3 (by decide),t 2 (by decide)⟩
   have gu:=R.us p hpm
   have lu:p.2<h.n:=R.k0 p.2 (by rw [R.ku p hpm];decide)
   have w1:IntKind.i64.wrap ((i:Int)+1)=((i+1:Nat):Int):=(wrap64 (by omega) (by omega)).trans (by omega)
   have s1:=sum_take (fun p:Blk×Nat=>pc 64 p.1.u) hp
   have s2:=sum_take (fun p:Blk×Nat=>pc 64 p.1.u*p.1.ws) hp
   have b1:=hle1 (i+1)
   have b2:=hle2 (i+1)
   rw [s1] at b1
   rw [s2] at b2
   generalize hA:((rb.take i).map fun p=>pc 64 p.1.u).sum=A at *
   generalize hB:((rb.take i).map fun p=>pc 64 p.1.u*p.1.ws).sum=B at *
   have hmono:∀ y,y≤p.1.nc→pc y p.1.u≤pc 64 p.1.u:=fun y hy=>by
    have h1:=pc_add (64-y) y p.1.u
    rw [show y+(64-y)=64 by omega] at h1
    omega
   have hprod:∀ y,y≤p.1.nc→pc y p.1.u*p.1.rws≤pc 64 p.1.u*p.1.ws:=fun y hy=>by
    rw [←pc_rws R.I hb];exact Nat.mul_le_mul_right _ (hmono y hy)
   simp -implicitDefEqProofs (disch:=first|exact dz _|fail) only [↓AM.R0,AM.R1,AM.R2,reduceAdd,reduceLeDiff,reduceEqDiff,reduceToNat,Nat.reduceLT,↓reduceIte,reduceEq,Int.reduceLT,reduceLE]
   refine AM.loopI_of (fun k' e h'=>∃ y:Nat,k'+y=p.1.nc∧h'=h∧e.val 0=.ptr g.c 0 0∧e.val 5=.int .i64 ((A+pc y p.1.u:Nat):Int)∧e.val 6=.int .i64 ((B+pc y p.1.u*p.1.rws:Nat):Int)∧e.val 7=.int .i64 (i:Int)∧e.val 8=.int .i64 (y:Int)) p.1.nc ?_ ?_
   ·have e0:pc 0 p.1.u=0:=by unfold pc;rfl
    refine ⟨0,by omega,rfl,?_,?_,?_,?_,?_⟩
    ·simp -implicitDefEqProofs (disch:=first|exact dz _|fail) only [↓AM.R0,AM.R1,AM.R2,reduceAdd,reduceLeDiff,reduceEqDiff,reduceToNat,Nat.reduceLT,↓reduceIte,reduceEq,Int.reduceLT,reduceLE,y0]
    ·simp -implicitDefEqProofs (disch:=first|exact dz _|fail) only [↓AM.R0,AM.R1,AM.R2,reduceAdd,reduceLeDiff,reduceEqDiff,reduceToNat,Nat.reduceLT,↓reduceIte,reduceEq,Int.reduceLT,reduceLE,y5];rw [e0,Nat.add_zero]
    ·simp -implicitDefEqProofs (disch:=first|exact dz _|fail) only [↓AM.R0,AM.R1,AM.R2,reduceAdd,reduceLeDiff,reduceEqDiff,reduceToNat,Nat.reduceLT,↓reduceIte,reduceEq,Int.reduceLT,reduceLE,y6];rw [e0,Nat.zero_mul,Nat.add_zero]
    ·simp -implicitDefEqProofs (disch:=first|exact dz _|fail) only [↓AM.R0,AM.R1,AM.R2,reduceAdd,reduceLeDiff,reduceEqDiff,reduceToNat,Nat.reduceLT,↓reduceIte,reduceEq,Int.reduceLT,reduceLE,y7]
    ·simp -implicitDefEqProofs (disch:=first|exact dz _|fail) only [↓AM.R0,AM.R1,AM.R2,reduceAdd,reduceLeDiff,reduceEqDiff,reduceToNat,Nat.reduceLT,↓reduceIte,reduceEq,Int.reduceLT,reduceLE];rfl
   ·clear y0 y5 y6 y7
    rintro k' e h2 ⟨y,hk',hh2,y0,y5,y6,y7,y8⟩
    rw [hh2]
    simp -implicitDefEqProofs (disch:=first|exact dz _|fail) only [↓AM.R0,AM.R1,AM.R2,reduceAdd,reduceLeDiff,reduceEqDiff,reduceToNat,Nat.reduceLT,↓reduceIte,reduceEq,Int.reduceLT,reduceLE,y0,y7,y8,g1,x1,x2,x05.1]
    refine AM.cI_bool (fun hd=>?_) (fun hd=>?_)
    ·have hy:y<p.1.nc:=by simp only [decide_eq_true_eq] at hd;omega
     have xb:=ix1 gu (len:=p.1.nc) (i:=y) hy
     have xv:=bools_at (u:=p.1.u) hy
     have w2:IntKind.i64.wrap ((y:Int)+1)=((y+1:Nat):Int):=(wrap64 (by omega) (by omega)).trans (by omega)
     have hs:=pc_snoc y p.1.u
     have hm1:=hmono (y+1) (by omega)
     have hp1:=hprod (y+1) (by omega)
     simp -implicitDefEqProofs (disch:=first|exact dz _|fail) only [↓AM.R0,AM.R1,AM.R2,reduceAdd,reduceLeDiff,reduceEqDiff,reduceToNat,Nat.reduceLT,↓reduceIte,reduceEq,Int.reduceLT,reduceLE,y0,y7,y8,g1,x1,x2,x05.1,xb,gu,xv]
     refine AM.cI_bool (fun hbit=>?_) (fun hbit=>?_)
     ·rw [hbit,if_pos rfl] at hs
      rw [hs] at hm1 hp1
      rw [Nat.add_mul,Nat.one_mul] at hp1
      have w3:IntKind.i64.wrap (((A+pc y p.1.u:Nat):Int)+1)=((A+pc (y+1) p.1.u:Nat):Int):=(wrap64 (by omega) (by omega)).trans (by omega)
      have w4:IntKind.i64.wrap (((B+pc y p.1.u*p.1.rws:Nat):Int)+((p.1.rws:Nat):Int))=((B+pc (y+1) p.1.u*p.1.rws:Nat):Int):=by
       rw [hs,Nat.add_mul,Nat.one_mul];exact (wrap64 (by omega) (by omega)).trans (by omega)
      simp -implicitDefEqProofs (disch:=first|exact dz _|fail) only [↓AM.R0,AM.R1,AM.R2,reduceAdd,reduceLeDiff,reduceEqDiff,reduceToNat,Nat.reduceLT,↓reduceIte,reduceEq,Int.reduceLT,reduceLE,y0,y5,y6,y7,y8,g1,x1,x2,x05.2,w2,w3,w4]
      exact ⟨k'-1,by omega,y+1,by omega,rfl,rfl,rfl⟩
     ·rw [hbit] at hs
      have hs':pc (y+1) p.1.u=pc y p.1.u:=by rw [hs];rfl
      simp -implicitDefEqProofs (disch:=first|exact dz _|fail) only [↓AM.R0,AM.R1,AM.R2,reduceAdd,reduceLeDiff,reduceEqDiff,reduceToNat,Nat.reduceLT,↓reduceIte,reduceEq,Int.reduceLT,reduceLE,y0,y5,y6,y7,y8,w2]
      exact ⟨k'-1,by omega,y+1,by omega,by rw [hs'],by rw [hs'],rfl⟩
    ·have hy:y=p.1.nc:=by simp only [decide_eq_false_iff_not] at hd;omega
     subst hy
     simp -implicitDefEqProofs (disch:=first|exact dz _|fail) only [↓AM.R0,AM.R1,AM.R2,reduceAdd,reduceLeDiff,reduceEqDiff,reduceToNat,Nat.reduceLT,↓reduceIte,reduceEq,Int.reduceLT,reduceLE,y0,y5,y6,y7,w1]
     refine ⟨k-1,by omega,i+1,by omega,?_,?_,rfl⟩
     ·rw [s1,pc_top hnc hu]
     ·rw [s2,pc_top hnc hu,pc_rws R.I hb]
  ·simp only [decide_eq_false_iff_not] at hc
   have hi:i=rb.length:=by omega
   subst hi
   rw [List.take_of_length_le (Nat.le_refl _)] at y5 y6
   rw [(perm_cells R).1] at y5
   rw [(perm_cells R).2] at y6
   have gu:=R.T.obj
   have lu:=R.T.lu
   simp -implicitDefEqProofs (disch:=first|exact dz _|fail) only [↓AM.R0,AM.R1,AM.R2,reduceAdd,reduceLeDiff,reduceEqDiff,reduceToNat,Nat.reduceLT,↓reduceIte,reduceEq,Int.reduceLT,reduceLE,y0,y5,y6,g1,gu]
   refine AM.callI_of (rCounts R.T.R) ?_
   rintro r h5 ⟨rfl,x,_,rfl⟩
   simp -implicitDefEqProofs (disch:=first|exact dz _|fail) only [↓AM.R0,AM.R1,AM.R2,reduceAdd,reduceLeDiff,reduceEqDiff,reduceToNat,Nat.reduceLT,↓reduceIte,reduceEq,Int.reduceLT,reduceLE,y5,y6]
   subst hQ
   exact ⟨HFrame.refl (by simp),rfl⟩
end Go.Proofs.YthillgheddpmhaaDoor.Pg