/-
  Reasoning on the machine: rules for each construct and operation, rows that are owned or read, data that comes in.
-/
import Derived.Carry
import Derived.ChangeSlices
import Derived.LaidMore
import Derived.OpenShut
import Derived.ProofKit
import Derived.Test.YtnbnpjhlflcjeaaFX2
namespace Go.AM
set_option linter.unusedSimpArgs false
set_option linter.unusedVariables false
abbrev Post:=AExit→Env→AHeap→Prop
def CallP (P:AProg) (f:FuncId) (args:List AVal) (h:AHeap) (Q:AVal→AHeap→Prop):Prop :=
 ∃ N v h',(∀ n,N≤n→(run P n).call f args h=some (.ret v,h'))∧Q v h'
theorem CallP.mono {P:AProg} {f:FuncId} {args:List AVal} {h:AHeap} {Q Q':AVal→AHeap→Prop} (c:CallP P f args h Q) (i:∀ v h',Q v h'→Q' v h'):CallP P f args h Q':=by
 obtain ⟨N,v,h',e,q⟩:=c;exact ⟨N,v,h',e,i _ _ q⟩
def CodeP (P:AProg) (c:ACode) (Q:Post) (e:Env) (h:AHeap):Prop :=
 ∃ N x s,(∀ n,N≤n→ex (run P n) c ⟨e,h⟩=some (x,s))∧Q x s.e s.h
def wpOp (o:Option (AVal×AHeap)) (k:AVal→AHeap→Prop):Prop:=match o with
 | some (v,h)=>k v h
 | none=>False
def wpFn (P:AProg) (f:AVal) (args:List AVal) (h:AHeap) (k:AVal→AHeap→Prop):Prop:=match f with
 | .fn (.func f) first captured=>CallP P f (first++args++captured) h k
 | _=>False
def YldP (P:AProg) (id:Nat) (args:List AVal) (h:AHeap) (Q:AVal→AHeap→Prop):Prop :=
 ∃ N v h',(∀ n,N≤n→(run P n).yld id args h=some (.ret v,h'))∧Q v h'
theorem YldP.mono {P:AProg} {id:Nat} {args:List AVal} {h:AHeap} {Q Q':AVal→AHeap→Prop} (c:YldP P id args h Q) (i:∀ v h',Q v h'→Q' v h'):YldP P id args h Q':=by
 obtain ⟨N,v,h',e,q⟩:=c;exact ⟨N,v,h',e,i _ _ q⟩
def wpFnY (P:AProg) (f:AVal) (args:List AVal) (h:AHeap) (k:AVal→AHeap→Prop):Prop:=match f with
 | .fn (.func f) first captured=>CallP P f (first++args++captured) h k
 | .yld id=>YldP P id args h k
 | _=>False
def pendX:Option AJump→AExit
 | none=>.normal
 | some j=>j.exitOf
def rangeQ (id:Nat) (Q:Post) (e:Env) (h':AHeap):Prop:=match h'.get id with
 | .loop st pend e2 ps asg body=>st≠1∧Q (pendX pend) e (h'.set id (.loop 3 pend e2 ps asg body))
 | _=>False
def wpRange (P:AProg) (f:AVal) (ps:List Nat) (asg body:ACode) (Q:Post) (e:Env) (h:AHeap):Prop:=match f with
 | .fn (.func g) first captured=>CallP P g (first++[.yld h.n]++captured) (h.push (.loop 0 none e ps asg body)) (fun _ h'=>rangeQ h.n Q e h')
 | _=>False
def wpG (o:Option Bool) (A B:Prop):Prop:=match o with
 | some true=>A
 | some false=>B
 | none=>False
def wpC (v:AVal) (A B:Prop):Prop:=match v with
 | .bool true=>A
 | .bool false=>B
 | _=>False
def wpIs (P:AProg):List AInstr→(Env→AHeap→Prop)→Env→AHeap→Prop
  | [],Q,e,h=>Q e h
  | i :: is, Q, e, h => wpG (wanted e i.guard)
      (match i.op with
        | .op o=>wpOp (aop e h o) fun v h'=>wpIs P is Q (put e i.dst v) h'
        | .call f args=>wpFnY P (opd e f) (args.map (opd e)) h fun v h'=>wpIs P is Q (put e i.dst v) h'
        | .panic _=>False)
      (wpIs P is Q (put e i.dst (.tup [])) h)
def wpTr (P:AProg):List DInstr→(List TS→Env→AHeap→Prop)→Env→AHeap→Prop
  | [],Q,e,h=>Q [] e h
  | d :: ds, Q, e, h => wpG (wanted e d.i.guard)
      (match d.i.op with
        | .op o=>wpOp (aop e h o) fun v h'=>wpTr P ds (fun ts=>Q (⟨e,h,true,v⟩::ts)) (put e d.i.dst v) (match d.k with | .act _=>h' | _=>h)
        | .call f args=>match d.k with
          | .act _=>wpFn P (opd e f) (args.map (opd e)) h fun v h'=>wpTr P ds (fun ts=>Q (⟨e,h,true,v⟩::ts)) (put e d.i.dst v) h'
          | _=>False
        | .panic _=>False)
      (wpTr P ds (fun ts=>Q (⟨e,h,false,.tup []⟩::ts)) (put e d.i.dst (.tup [])) h)
def seqQ (k:Env→AHeap→Prop) (Q:Post):Post
 | .normal,e,h=>k e h
 | x,e,h=>Q x e h
def blkQ (id:Nat) (Q:Post):Post
 | .exit id',e,h=>if id'=id then Q .normal e h else Q (.exit id') e h
 | x,e,h=>Q x e h
def loopQ (I:Nat→Env→AHeap→Prop) (k:Nat) (Q:Post):Post
 | .normal,e,h=>∃ k',k'<k∧I k' e h
 | x,e,h=>Q x e h
def wp (P:AProg):ACode→Post→Env→AHeap→Prop
 | .skip,Q,e,h=>Q .normal e h
 | .region is,Q,e,h=>wpIs P is (Q .normal) e h
 | .draw is,Q,e,h=>wpTr P is (fun ts e' h'=>readsOk ts h' is ts=true∧Q .normal e' h') e h
 | .seq a b,Q,e,h=>wp P a (seqQ (wp P b Q) Q) e h
 | .cond c a b,Q,e,h=>wpC (opd e c) (wp P a Q e h) (wp P b Q e h)
 | .block id b,Q,e,h=>wp P b (blkQ id Q) e h
 | .loop b,Q,e,h=>∃ (I:Nat→Env→AHeap→Prop) (k:Nat),I k e h∧∀ k e h,I k e h→wp P b (loopQ I k Q) e h
 | .exit id,Q,e,h=>Q (.exit id) e h
 | .ret,Q,e,h=>Q .ret e h
 | .range f ps asg body,Q,e,h=>wpRange P (opd e f) ps asg body Q e h
theorem wpIs_sound {P : AProg} : ∀ (is : List AInstr) (Q : Env → AHeap → Prop) (e : Env) (h : AHeap), wpIs P is Q e h →
    ∃ N s,(∀ n,N≤n→exIs (run P n) is ⟨e,h⟩=some (.normal,s))∧Q s.e s.h
  | [],Q,e,h,w=>⟨0,⟨e,h⟩,fun _ _=>rfl,w⟩
  | i::is,Q,e,h,w=>by
    simp only [wpIs] at w
    cases hg:wanted e i.guard with
    | none=>rw [hg] at w;exact w.elim
    | some b =>
      rw [hg] at w
      cases b with
      | false =>
        obtain ⟨N,s,h1,h2⟩:=wpIs_sound is Q _ _ w
        exact ⟨N,s,fun n hn=>by simp only [exIs,hg];exact h1 n hn,h2⟩
      | true =>
        simp only [wpG] at w
        cases ho:i.op with
        | op o =>
          rw [ho] at w
          simp only at w
          cases ha:aop e h o with
          | none=>rw [ha] at w;exact w.elim
          | some p =>
            obtain ⟨v,h'⟩:=p
            rw [ha] at w
            obtain ⟨N,s,h1,h2⟩:=wpIs_sound is Q _ _ w
            exact ⟨N,s,fun n hn=>by simp only [exIs,hg,ho,ha];exact h1 n hn,h2⟩
        | call f args =>
          rw [ho] at w
          simp only at w
          unfold wpFnY at w
          split at w
          · rename_i f' first captured hf
            obtain ⟨N1,v,h',hc,w⟩:=w
            obtain ⟨N,s,h1,h2⟩:=wpIs_sound is Q _ _ w
            refine ⟨max N N1,s,fun n hn=>?_,h2⟩
            simp only [exIs,hg,ho,hf]
            rw [hc n (by omega)]
            exact h1 n (by omega)
          · rename_i id hf
            obtain ⟨N1,v,h',hc,w⟩:=w
            obtain ⟨N,s,h1,h2⟩:=wpIs_sound is Q _ _ w
            refine ⟨max N N1,s,fun n hn=>?_,h2⟩
            simp only [exIs,hg,ho,hf]
            rw [hc n (by omega)]
            exact h1 n (by omega)
          · exact w.elim
        | panic x=>rw [ho] at w;exact w.elim
theorem wpTr_sound {P : AProg} : ∀ (is : List DInstr) (Q : List TS → Env → AHeap → Prop) (e : Env) (h : AHeap), wpTr P is Q e h →
    ∃ N ts e' h',(∀ n,N≤n→trD (run P n) is e h=some (ts,.fin,e',h'))∧Q ts e' h'
  | [],Q,e,h,w=>⟨0,[],e,h,fun _ _=>rfl,w⟩
  | d::ds,Q,e,h,w=>by
    simp only [wpTr] at w
    cases hg:wanted e d.i.guard with
    | none=>rw [hg] at w;exact w.elim
    | some b =>
      rw [hg] at w
      cases b with
      | false =>
        obtain ⟨N,ts,e',h',h1,h2⟩:=wpTr_sound ds _ _ _ w
        exact ⟨N,_,e',h',fun n hn=>by simp only [trD,hg];rw [h1 n hn];rfl,h2⟩
      | true =>
        simp only [wpG] at w
        cases ho:d.i.op with
        | op o =>
          rw [ho] at w
          simp only at w
          cases ha:aop e h o with
          | none=>rw [ha] at w;exact w.elim
          | some p =>
            obtain ⟨v,h'⟩:=p
            rw [ha] at w
            obtain ⟨N,ts,e',h2',h1,h2⟩:=wpTr_sound ds _ _ _ w
            refine ⟨N,_,e',h2',fun n hn=>?_,h2⟩
            have h1n:=h1 n hn
            cases hk:d.k<;>simp only [hk] at h1n<;>simp only [trD,hg,ho,ha,hk,h1n]<;>rfl
        | call f args =>
          rw [ho] at w
          simp only at w
          cases hk:d.k with
          | act last =>
            rw [hk] at w
            simp only at w
            unfold wpFn at w
            split at w
            · rename_i f' first captured hf
              obtain ⟨N1,v,h',hc,w⟩:=w
              obtain ⟨N,ts,e',h2',h1,h2⟩:=wpTr_sound ds _ _ _ w
              refine ⟨max N N1,_,e',h2',fun n hn=>?_,h2⟩
              simp only [trD,hg,ho,hf,hk]
              rw [hc n (by omega)]
              simp only [h1 n (by omega)]
              rfl
            · exact w.elim
          | pure=>rw [hk] at w;exact w.elim
          | read qs=>rw [hk] at w;exact w.elim
        | panic x=>rw [ho] at w;exact w.elim
theorem wp_sound {P:AProg}:∀ (c:ACode) (Q:Post) (e:Env) (h:AHeap),wp P c Q e h→CodeP P c Q e h
 | .skip,Q,e,h,w=>⟨0,.normal,⟨e,h⟩,fun _ _=>rfl,w⟩
 | .exit id,Q,e,h,w=>⟨0,.exit id,⟨e,h⟩,fun _ _=>rfl,w⟩
 | .ret,Q,e,h,w=>⟨0,.ret,⟨e,h⟩,fun _ _=>rfl,w⟩
 | .range f ps asg body,Q,e,h,w=>by
  simp only [wp] at w
  unfold wpRange at w
  split at w
  ·rename_i g first captured hf
   obtain ⟨N,v,h',hc,w⟩:=w
   unfold rangeQ at w
   split at w
   ·rename_i st pend e2 ps2 asg2 body2 hg
    obtain ⟨hst,w⟩:=w
    cases pend with
    | none=>exact ⟨N,_,⟨e,h'.set h.n (.loop 3 none e2 ps2 asg2 body2)⟩,fun n hn=>by simp only [ex,hf,hc n hn,rangeEnd,hg,if_neg hst,pendX],w⟩
    | some j=>exact ⟨N,_,⟨e,h'.set h.n (.loop 3 (some j) e2 ps2 asg2 body2)⟩,fun n hn=>by simp only [ex,hf,hc n hn,rangeEnd,hg,if_neg hst,pendX],w⟩
   ·exact w.elim
  ·exact w.elim
 | .region is,Q,e,h,w=>by
  obtain ⟨N,s,h1,h2⟩:=wpIs_sound is _ e h w
  exact ⟨N,.normal,s,fun n hn=>by simp only [ex];exact h1 n hn,h2⟩
 | .draw is,Q,e,h,w=>by
  obtain ⟨N,ts,e',h',h1,hr,h2⟩:=wpTr_sound is _ e h w
  exact ⟨N,.normal,⟨e',h'⟩,fun n hn=>by simp only [ex,exD,h1 n hn,hr];rfl,h2⟩
 | .seq a b,Q,e,h,w=>by
  obtain ⟨N,x,s,h1,h2⟩:=wp_sound a _ e h w
  cases x with
  | normal =>
   obtain ⟨N2,x,s2,h3,h4⟩:=wp_sound b _ _ _ h2
   exact ⟨max N N2,x,s2,fun n hn=>by simp only [ex,h1 n (by omega)];exact h3 n (by omega),h4⟩
  | exit id=>exact ⟨N,_,s,fun n hn=>by simp only [ex,h1 n hn],h2⟩
  | ret=>exact ⟨N,_,s,fun n hn=>by simp only [ex,h1 n hn],h2⟩
  | panic v=>exact ⟨N,_,s,fun n hn=>by simp only [ex,h1 n hn],h2⟩
 | .cond c a b,Q,e,h,w=>by
  simp only [wp] at w
  unfold wpC at w
  split at w
  ·rename_i hc
   obtain ⟨N,x,s,h1,h2⟩:=wp_sound a _ e h w
   exact ⟨N,x,s,fun n hn=>by simp only [ex,hc];exact h1 n hn,h2⟩
  ·rename_i hc
   obtain ⟨N,x,s,h1,h2⟩:=wp_sound b _ e h w
   exact ⟨N,x,s,fun n hn=>by simp only [ex,hc];exact h1 n hn,h2⟩
  ·exact w.elim
 | .block id b,Q,e,h,w=>by
  obtain ⟨N,x,s,h1,h2⟩:=wp_sound b _ e h w
  cases x with
  | exit id' =>
   simp only [blkQ] at h2
   by_cases hi:id'=id
   ·rw [if_pos hi] at h2
    exact ⟨N,.normal,s,fun n hn=>by simp only [ex,h1 n hn,if_pos hi],h2⟩
   ·rw [if_neg hi] at h2
    exact ⟨N,.exit id',s,fun n hn=>by simp only [ex,h1 n hn,if_neg hi],h2⟩
  | normal=>exact ⟨N,_,s,fun n hn=>by simp only [ex,h1 n hn],h2⟩
  | ret=>exact ⟨N,_,s,fun n hn=>by simp only [ex,h1 n hn],h2⟩
  | panic v=>exact ⟨N,_,s,fun n hn=>by simp only [ex,h1 n hn],h2⟩
 | .loop b,Q,e,h,w=>by
  obtain ⟨I,k,h0,hs⟩:=w
  have ih:=wp_sound (P:=P) b
  induction k using Nat.strongRecOn generalizing e h with
  | ind k ihk =>
   obtain ⟨N,x,s,h1,h2⟩:=ih _ e h (hs k e h h0)
   cases x with
   | normal =>
    obtain ⟨k',hk,hI⟩:=h2
    obtain ⟨N2,x,s2,h3,h4⟩:=ihk k' hk s.e s.h hI
    refine ⟨max N (N2+1),x,s2,fun n hn=>?_,h4⟩
    obtain ⟨m,rfl⟩:∃ m,n=m+1:=⟨n-1,by omega⟩
    simp only [ex,h1 (m+1) (by omega)]
    exact h3 m (by omega)
   | exit id=>exact ⟨N,_,s,fun n hn=>by simp only [ex,h1 n hn],h2⟩
   | ret=>exact ⟨N,_,s,fun n hn=>by simp only [ex,h1 n hn],h2⟩
   | panic v=>exact ⟨N,_,s,fun n hn=>by simp only [ex,h1 n hn],h2⟩
def roundQ (id:Nat) (pend:Option AJump) (Q:AVal→AHeap→Prop) (h:AHeap):Prop:=match h.get id with
 | .loop _ _ e ps asg body=>Q (.bool pend.isNone) (h.set id (.loop (if pend.isNone then 0 else 2) pend e ps asg body))
 | _=>False
def bodyQ (id:Nat) (Q:AVal→AHeap→Prop):Post
 | .normal,_,h=>roundQ id none Q h
 | .ret,_,h=>roundQ id (some .ret) Q h
 | .exit k,_,h=>roundQ id (some (.exit k)) Q h
 | .panic _,_,_=>False
def asgQ (P:AProg) (id:Nat) (body:ACode) (Q:AVal→AHeap→Prop):Post
 | .normal,e1,h1=>match h1.get id with
  | .loop 0 pend e ps asg body'=>wp P body (bodyQ id Q) e1 (h1.set id (.loop 1 pend e ps asg body'))
  | _=>False
 | _,_,_=>False
def retQ (rs:List AResVar) (Q:AVal→AHeap→Prop):Post
 | .ret,e,h=>wpOp ((resOf ⟨e,h⟩ rs).map fun v=>(v,h)) Q
 | .normal,e,h=>wpOp ((resOf ⟨e,h⟩ rs).map fun v=>(v,h)) Q
 | _,_,_=>False
theorem callP {P : AProg} {f : FuncId} {b : ACode} {rs : List AResVar} (hf : Tr.get P f = some ⟨b, rs, none, none⟩) {args : List AVal} {h : AHeap} {Q : AVal → AHeap → Prop}
    (w:wp P b (retQ rs Q) (envOf 0 args) h):CallP P f args h Q:=by
  obtain ⟨N,x,s,h1,h2⟩:=wp_sound b _ _ _ w
  have key:(x=.ret∨x=.normal)→∃ v,resOf s rs=some v∧Q v s.h:=by
    intro hx
    have:wpOp ((resOf s rs).map fun v=>(v,s.h)) Q:=by rcases hx with rfl | rfl<;>exact h2
    cases hr:resOf s rs with
    | none=>rw [hr] at this;exact this.elim
    | some v=>rw [hr] at this;exact ⟨v,rfl,this⟩
  have hx:x=.ret∨x=.normal:=by cases x<;>first | exact .inl rfl | exact .inr rfl | exact h2.elim
  obtain ⟨v,hr,hq⟩:=key hx
  refine ⟨N+1,v,s.h,fun n hn=>?_,hq⟩
  obtain ⟨m,rfl⟩:∃ m,n=m+1:=⟨n-1,by omega⟩
  show callF P (run P m) f args h=_
  rcases hx with rfl | rfl<;>simp only [callF,hf,h1 m (by omega),hr]<;>rfl
theorem wp_loop {P:AProg} {b:ACode} {Q:Post} {e:Env} {h:AHeap} (I:Nat→Env→AHeap→Prop) (k:Nat) (h0:I k e h) (hs:∀ k e h,I k e h→wp P b (loopQ I k Q) e h):wp P (.loop b) Q e h:=⟨I,k,h0,hs⟩
end Go.AM
namespace Go.AM
set_option linter.unusedSimpArgs false
set_option linter.unusedVariables false
variable {P:AProg}
/-! What comes next is kept as code, not as a function: so that a simplifier doesn't go there ahead of its time. -/
def opI (P:AProg) (o:Option (AVal×AHeap)) (d:Option Nat) (is:List AInstr) (Q:Env→AHeap→Prop) (e:Env):Prop:=wpOp o fun v h'=>wpIs P is Q (put e d v) h'
def callI (P:AProg) (f:FuncId) (args:List AVal) (h:AHeap) (d:Option Nat) (is:List AInstr) (Q:Env→AHeap→Prop) (e:Env):Prop:=CallP P f args h fun v h'=>wpIs P is Q (put e d v) h'
def fnI (P:AProg) (f:AVal) (args:List AVal) (h:AHeap) (d:Option Nat) (is:List AInstr) (Q:Env→AHeap→Prop) (e:Env):Prop:=wpFnY P f args h fun v h'=>wpIs P is Q (put e d v) h'
def yldI (P:AProg) (id:Nat) (args:List AVal) (h:AHeap) (d:Option Nat) (is:List AInstr) (Q:Env→AHeap→Prop) (e:Env):Prop:=YldP P id args h fun v h'=>wpIs P is Q (put e d v) h'
def rangeI (P:AProg) (f:AVal) (ps:List Nat) (asg body:ACode) (Q:Post) (e:Env) (h:AHeap):Prop:=wpRange P f ps asg body Q e h
def rangeC (P:AProg) (g:FuncId) (args:List AVal) (id:Nat) (h:AHeap) (Q:Post) (e:Env):Prop:=CallP P g args h fun _ h'=>rangeQ id Q e h'
def gI (P:AProg) (v:AVal) (b:Bool) (d:Option Nat) (i:AIOp) (is:List AInstr) (Q:Env→AHeap→Prop) (e:Env) (h:AHeap):Prop :=
 wpG (match v with | .bool c=>some (c==b) | .tup _=>some false | _=>none) (wpIs P (⟨d,i,none⟩::is) Q e h) (wpIs P is Q (put e d (.tup [])) h)
def cI (P:AProg) (v:AVal) (a b:ACode) (Q:Post) (e:Env) (h:AHeap):Prop:=wpC v (wp P a Q e h) (wp P b Q e h)
def loopI (P:AProg) (b:ACode) (Q:Post) (e:Env) (h:AHeap):Prop:=wp P (.loop b) Q e h
def seqC (P:AProg) (b:ACode) (Q:Post):Post:=seqQ (wp P b Q) Q
theorem w_skip (Q:Post) (e:Env) (h:AHeap):wp P .skip Q e h=Q .normal e h:=rfl
theorem w_region (is:List AInstr) (Q:Post) (e:Env) (h:AHeap):wp P (.region is) Q e h=wpIs P is (Q .normal) e h:=rfl
theorem w_seq (a b:ACode) (Q:Post) (e:Env) (h:AHeap):wp P (.seq a b) Q e h=wp P a (seqC P b Q) e h:=rfl
theorem w_cond (c:AOpd) (a b:ACode) (Q:Post) (e:Env) (h:AHeap):wp P (.cond c a b) Q e h=cI P (opd e c) a b Q e h:=rfl
theorem w_block (id:Nat) (b:ACode) (Q:Post) (e:Env) (h:AHeap):wp P (.block id b) Q e h=wp P b (blkQ id Q) e h:=rfl
theorem w_loop (b:ACode) (Q:Post) (e:Env) (h:AHeap):wp P (.loop b) Q e h=loopI P b Q e h:=rfl
theorem w_exit (id:Nat) (Q:Post) (e:Env) (h:AHeap):wp P (.exit id) Q e h=Q (.exit id) e h:=rfl
theorem w_ret (Q:Post) (e:Env) (h:AHeap):wp P .ret Q e h=Q .ret e h:=rfl
theorem q_seq (b:ACode) (Q:Post) (e:Env) (h:AHeap):seqC P b Q .normal e h=wp P b Q e h:=rfl
theorem q_seq_exit (b:ACode) (Q:Post) (i:Nat) (e:Env) (h:AHeap):seqC P b Q (.exit i) e h=Q (.exit i) e h:=rfl
theorem q_seq_ret (b:ACode) (Q:Post) (e:Env) (h:AHeap):seqC P b Q .ret e h=Q .ret e h:=rfl
theorem q_blk (i:Nat) (Q:Post) (e:Env) (h:AHeap):blkQ i Q .normal e h=Q .normal e h:=rfl
theorem q_blk_ret (i:Nat) (Q:Post) (e:Env) (h:AHeap):blkQ i Q .ret e h=Q .ret e h:=rfl
theorem q_blk_same (i:Nat) (Q:Post) (e:Env) (h:AHeap):blkQ i Q (.exit i) e h=Q .normal e h:=by simp [blkQ]
theorem q_blk_ne (i j:Nat) (n:Nat.beq j i=false) (Q:Post) (e:Env) (h:AHeap):blkQ i Q (.exit j) e h=Q (.exit j) e h:=by
 have:¬ j=i:=by intro e;subst e;simp at n
 simp [blkQ,this]
theorem q_loop (I:Nat→Env→AHeap→Prop) (k:Nat) (Q:Post) (e:Env) (h:AHeap):loopQ I k Q .normal e h=∃ k',k'<k∧I k' e h:=rfl
theorem q_loop_exit (I:Nat→Env→AHeap→Prop) (k:Nat) (Q:Post) (i:Nat) (e:Env) (h:AHeap):loopQ I k Q (.exit i) e h=Q (.exit i) e h:=rfl
theorem q_loop_ret (I:Nat→Env→AHeap→Prop) (k:Nat) (Q:Post) (e:Env) (h:AHeap):loopQ I k Q .ret e h=Q .ret e h:=rfl
theorem q_ret (rs:List AResVar) (Q:AVal→AHeap→Prop) (e:Env) (h:AHeap):retQ rs Q .ret e h=wpOp ((resOf ⟨e,h⟩ rs).map fun v=>(v,h)) Q:=rfl
theorem q_ret_normal (rs:List AResVar) (Q:AVal→AHeap→Prop) (e:Env) (h:AHeap):retQ rs Q .normal e h=wpOp ((resOf ⟨e,h⟩ rs).map fun v=>(v,h)) Q:=rfl
theorem res_nil (e:Env) (h:AHeap):((resOf ⟨e,h⟩ []).map fun v=>(v,h))=some (.tup [],h):=rfl
theorem res_tmp (e:Env) (h:AHeap) (t:Nat):((resOf ⟨e,h⟩ [.tmp t]).map fun v=>(v,h))=some (e.val t,h):=rfl
theorem res_tmp2 (e:Env) (h:AHeap) (t u:Nat):((resOf ⟨e,h⟩ [.tmp t,.tmp u]).map fun v=>(v,h))=some (.tup [e.val t,e.val u],h):=rfl
theorem res_tmp3 (e:Env) (h:AHeap) (t u w:Nat):((resOf ⟨e,h⟩ [.tmp t,.tmp u,.tmp w]).map fun v=>(v,h))=some (.tup [e.val t,e.val u,e.val w],h):=rfl
def retO (o:Option (AVal×AHeap)) (h:AHeap):Option (AVal×AHeap):=o.map fun p=>(p.1,h)
theorem res_cell (e:Env) (h:AHeap) (t:Nat) (n:Option Nat):((resOf ⟨e,h⟩ [.cell t n]).map fun v=>(v,h))=retO (aop e h (.load n (.tmp t))) h:=by
 simp only [resOf,resVals,resVal,retO]
 cases aop e h (.load n (.tmp t))<;>rfl
theorem retO_some (v:AVal) (h' h:AHeap):retO (some (v,h')) h=some (v,h):=rfl
theorem op_some (v:AVal) (h:AHeap) (k:AVal→AHeap→Prop):wpOp (some (v,h)) k=k v h:=rfl
theorem is_nil (Q:Env→AHeap→Prop) (e:Env) (h:AHeap):wpIs P [] Q e h=Q e h:=rfl
theorem is_op (d : Option Nat) (o : AOp) (is : List AInstr) (Q : Env → AHeap → Prop) (e : Env) (h : AHeap) :
    wpIs P (⟨d,.op o,none⟩::is) Q e h=opI P (aop e h o) d is Q e:=rfl
theorem is_call (d : Option Nat) (f : AOpd) (args : List AOpd) (is : List AInstr) (Q : Env → AHeap → Prop) (e : Env) (h : AHeap) :
    wpIs P (⟨d,.call f args,none⟩::is) Q e h=fnI P (opd e f) (args.map (opd e)) h d is Q e:=rfl
theorem is_guard (d : Option Nat) (i : AIOp) (t : Nat) (b : Bool) (is : List AInstr) (Q : Env → AHeap → Prop) (e : Env) (h : AHeap) :
    wpIs P (⟨d,i,some (t,b)⟩::is) Q e h=gI P (e.val t) b d i is Q e h:=by
  simp only [wpIs,gI,wanted]
  cases e.val t<;>rfl
theorem opI_some (v:AVal) (h:AHeap) (d:Nat) (is:List AInstr) (Q:Env→AHeap→Prop) (e:Env):opI P (some (v,h)) (some d) is Q e=wpIs P is Q (Tr.set e d v) h:=rfl
theorem opI_drop (v:AVal) (h:AHeap) (is:List AInstr) (Q:Env→AHeap→Prop) (e:Env):opI P (some (v,h)) none is Q e=wpIs P is Q e h:=rfl
theorem fnI_fn (f:FuncId) (a b args:List AVal) (h:AHeap) (d:Option Nat) (is:List AInstr) (Q:Env→AHeap→Prop) (e:Env):fnI P (.fn (.func f) a b) args h d is Q e=callI P f (a++args++b) h d is Q e:=rfl
theorem fnI_yld (id:Nat) (args:List AVal) (h:AHeap) (d:Option Nat) (is:List AInstr) (Q:Env→AHeap→Prop) (e:Env):fnI P (.yld id) args h d is Q e=yldI P id args h d is Q e:=rfl
theorem w_range (f:AOpd) (ps:List Nat) (asg body:ACode) (Q:Post) (e:Env) (h:AHeap):wp P (.range f ps asg body) Q e h=rangeI P (opd e f) ps asg body Q e h:=rfl
theorem rangeI_fn (g:FuncId) (a b:List AVal) (ps:List Nat) (asg body:ACode) (Q:Post) (e:Env) (h:AHeap):rangeI P (.fn (.func g) a b) ps asg body Q e h=rangeC P g (a++[.yld h.n]++b) h.n (h.push (.loop 0 none e ps asg body)) Q e:=rfl
theorem q_body (id:Nat) (Q:AVal→AHeap→Prop) (e:Env) (h:AHeap):bodyQ id Q .normal e h=roundQ id none Q h:=rfl
theorem q_body_ret (id:Nat) (Q:AVal→AHeap→Prop) (e:Env) (h:AHeap):bodyQ id Q .ret e h=roundQ id (some .ret) Q h:=rfl
theorem q_body_exit (id k:Nat) (Q:AVal→AHeap→Prop) (e:Env) (h:AHeap):bodyQ id Q (.exit k) e h=roundQ id (some (.exit k)) Q h:=rfl
theorem gI_tt (d:Option Nat) (i:AIOp) (is:List AInstr) (Q:Env→AHeap→Prop) (e:Env) (h:AHeap):gI P (.bool true) true d i is Q e h=wpIs P (⟨d,i,none⟩::is) Q e h:=rfl
theorem gI_ff (d:Option Nat) (i:AIOp) (is:List AInstr) (Q:Env→AHeap→Prop) (e:Env) (h:AHeap):gI P (.bool false) false d i is Q e h=wpIs P (⟨d,i,none⟩::is) Q e h:=rfl
theorem gI_tf (d:Option Nat) (i:AIOp) (is:List AInstr) (Q:Env→AHeap→Prop) (e:Env) (h:AHeap):gI P (.bool true) false d i is Q e h=wpIs P is Q (put e d (.tup [])) h:=rfl
theorem gI_ft (d:Option Nat) (i:AIOp) (is:List AInstr) (Q:Env→AHeap→Prop) (e:Env) (h:AHeap):gI P (.bool false) true d i is Q e h=wpIs P is Q (put e d (.tup [])) h:=rfl
theorem gI_tup (l:List AVal) (b:Bool) (d:Option Nat) (i:AIOp) (is:List AInstr) (Q:Env→AHeap→Prop) (e:Env) (h:AHeap):gI P (.tup l) b d i is Q e h=wpIs P is Q (put e d (.tup [])) h:=rfl
theorem gI_bool {c b:Bool} {d:Option Nat} {i:AIOp} {is:List AInstr} {Q:Env→AHeap→Prop} {e:Env} {h:AHeap} (h1:c=true→gI P (.bool true) b d i is Q e h) (h2:c=false→gI P (.bool false) b d i is Q e h):gI P (.bool c) b d i is Q e h:=by
 cases c
 ·exact h2 rfl
 ·exact h1 rfl
theorem cI_true (a b:ACode) (Q:Post) (e:Env) (h:AHeap):cI P (.bool true) a b Q e h=wp P a Q e h:=rfl
theorem cI_false (a b:ACode) (Q:Post) (e:Env) (h:AHeap):cI P (.bool false) a b Q e h=wp P b Q e h:=rfl
theorem cI_bool {c:Bool} {a b:ACode} {Q:Post} {e:Env} {h:AHeap} (h1:c=true→wp P a Q e h) (h2:c=false→wp P b Q e h):cI P (.bool c) a b Q e h:=by
 cases c
 ·exact h2 rfl
 ·exact h1 rfl
theorem callI_of {f:FuncId} {args:List AVal} {h:AHeap} {d:Option Nat} {is:List AInstr} {Q:Env→AHeap→Prop} {e:Env} {R:AVal→AHeap→Prop} (c:CallP P f args h R) (k:∀ v h',R v h'→wpIs P is Q (put e d v) h'):callI P f args h d is Q e:=c.mono k
theorem opI_of {o:Option (AVal×AHeap)} {d:Option Nat} {is:List AInstr} {Q:Env→AHeap→Prop} {e:Env} (w:wpOp o fun v h'=>wpIs P is Q (put e d v) h'):opI P o d is Q e:=w
theorem loopI_of {b:ACode} {Q:Post} {e:Env} {h:AHeap} (I:Nat→Env→AHeap→Prop) (k:Nat) (h0:I k e h) (hs:∀ k e h,I k e h→wp P b (loopQ I k Q) e h):loopI P b Q e h:=wp_loop I k h0 hs
/-! Regions whose order is open. -/
def trI (P:AProg) (is:List DInstr) (acc:List TS) (all:List DInstr) (Q:Env→AHeap→Prop) (e:Env) (h:AHeap):Prop :=
  wpTr P is (fun ts e' h'=>readsOk (acc.reverse++ts) h' all (acc.reverse++ts)=true∧Q e' h') e h
def trOp (P:AProg) (o:Option (AVal×AHeap)) (d:Option Nat) (act:Bool) (is:List DInstr) (acc:List TS) (all:List DInstr) (Q:Env→AHeap→Prop) (e:Env) (h:AHeap):Prop :=
 wpOp o fun v h'=>trI P is (⟨e,h,true,v⟩::acc) all Q (put e d v) (if act then h' else h)
def trG (P:AProg) (v:AVal) (b:Bool) (d:Option Nat) (i:AIOp) (k:DK) (is:List DInstr) (acc:List TS) (all:List DInstr) (Q:Env→AHeap→Prop) (e:Env) (h:AHeap):Prop :=
 wpG (match v with | .bool c=>some (c==b) | .tup _=>some false | _=>none) (trI P (⟨⟨d,i,none⟩,k⟩::is) acc all Q e h) (trI P is (⟨e,h,false,.tup []⟩::acc) all Q (put e d (.tup [])) h)
def trFn (P:AProg) (f:AVal) (args:List AVal) (d:Option Nat) (is:List DInstr) (acc:List TS) (all:List DInstr) (Q:Env→AHeap→Prop) (e:Env) (h:AHeap):Prop :=
 wpFn P f args h fun v h'=>trI P is (⟨e,h,true,v⟩::acc) all Q (put e d v) h'
def trCall (P:AProg) (f:FuncId) (args:List AVal) (d:Option Nat) (is:List DInstr) (acc:List TS) (all:List DInstr) (Q:Env→AHeap→Prop) (e:Env) (h:AHeap):Prop :=
 CallP P f args h fun v h'=>trI P is (⟨e,h,true,v⟩::acc) all Q (put e d v) h'
theorem w_draw (is:List DInstr) (Q:Post) (e:Env) (h:AHeap):wp P (.draw is) Q e h=trI P is [] is (Q .normal) e h:=rfl
theorem tr_nil (acc:List TS) (all:List DInstr) (Q:Env→AHeap→Prop) (e:Env) (h:AHeap):trI P [] acc all Q e h=(readsOk acc.reverse h all acc.reverse=true∧Q e h):=by simp only [trI,wpTr,List.append_nil]
theorem tr_pure (d : Option Nat) (o : AOp) (is : List DInstr) (acc : List TS) (all : List DInstr) (Q : Env → AHeap → Prop) (e : Env) (h : AHeap) :
    trI P (⟨⟨d,.op o,none⟩,.pure⟩::is) acc all Q e h=trOp P (aop e h o) d false is acc all Q e h:=by
  simp only [trI,trOp,wpTr,wanted,wpG,List.reverse_cons,List.append_assoc,List.cons_append,List.nil_append];rfl
theorem tr_read (d : Option Nat) (o : AOp) (qs : List Nat) (is : List DInstr) (acc : List TS) (all : List DInstr) (Q : Env → AHeap → Prop) (e : Env) (h : AHeap) :
    trI P (⟨⟨d,.op o,none⟩,.read qs⟩::is) acc all Q e h=trOp P (aop e h o) d false is acc all Q e h:=by
  simp only [trI,trOp,wpTr,wanted,wpG,List.reverse_cons,List.append_assoc,List.cons_append,List.nil_append];rfl
theorem tr_act (d : Option Nat) (o : AOp) (l : Bool) (is : List DInstr) (acc : List TS) (all : List DInstr) (Q : Env → AHeap → Prop) (e : Env) (h : AHeap) :
    trI P (⟨⟨d,.op o,none⟩,.act l⟩::is) acc all Q e h=trOp P (aop e h o) d true is acc all Q e h:=by
  simp only [trI,trOp,wpTr,wanted,wpG,List.reverse_cons,List.append_assoc,List.cons_append,List.nil_append];rfl
theorem tr_call (d : Option Nat) (f : AOpd) (args : List AOpd) (l : Bool) (is : List DInstr) (acc : List TS) (all : List DInstr) (Q : Env → AHeap → Prop) (e : Env) (h : AHeap) :
    trI P (⟨⟨d,.call f args,none⟩,.act l⟩::is) acc all Q e h=trFn P (opd e f) (args.map (opd e)) d is acc all Q e h:=by
  simp only [trI,trFn,wpTr,wanted,wpG,List.reverse_cons,List.append_assoc,List.cons_append,List.nil_append]
theorem tr_guard (d : Option Nat) (i : AIOp) (k : DK) (t : Nat) (b : Bool) (is : List DInstr) (acc : List TS) (all : List DInstr) (Q : Env → AHeap → Prop) (e : Env) (h : AHeap) :
    trI P (⟨⟨d,i,some (t,b)⟩,k⟩::is) acc all Q e h=trG P (e.val t) b d i k is acc all Q e h:=by
  simp only [trI,trG,wpTr,wanted,List.reverse_cons,List.append_assoc,List.cons_append,List.nil_append]
  cases e.val t<;>rfl
theorem trOp_some (v:AVal) (h':AHeap) (d:Nat) (is:List DInstr) (acc:List TS) (all:List DInstr) (Q:Env→AHeap→Prop) (e:Env) (h:AHeap):trOp P (some (v,h')) (some d) false is acc all Q e h=trI P is (⟨e,h,true,v⟩::acc) all Q (Tr.set e d v) h:=rfl
theorem trOp_act (v:AVal) (h':AHeap) (d:Nat) (is:List DInstr) (acc:List TS) (all:List DInstr) (Q:Env→AHeap→Prop) (e:Env) (h:AHeap):trOp P (some (v,h')) (some d) true is acc all Q e h=trI P is (⟨e,h,true,v⟩::acc) all Q (Tr.set e d v) h':=rfl
theorem trOp_drop (v:AVal) (h':AHeap) (is:List DInstr) (acc:List TS) (all:List DInstr) (Q:Env→AHeap→Prop) (e:Env) (h:AHeap):trOp P (some (v,h')) none true is acc all Q e h=trI P is (⟨e,h,true,v⟩::acc) all Q e h':=rfl
theorem trFn_fn (f:FuncId) (a b args:List AVal) (d:Option Nat) (is:List DInstr) (acc:List TS) (all:List DInstr) (Q:Env→AHeap→Prop) (e:Env) (h:AHeap):trFn P (.fn (.func f) a b) args d is acc all Q e h=trCall P f (a++args++b) d is acc all Q e h:=rfl
theorem trG_tt (d:Option Nat) (i:AIOp) (k:DK) (is:List DInstr) (acc:List TS) (all:List DInstr) (Q:Env→AHeap→Prop) (e:Env) (h:AHeap):trG P (.bool true) true d i k is acc all Q e h=trI P (⟨⟨d,i,none⟩,k⟩::is) acc all Q e h:=rfl
theorem trG_ff (d:Option Nat) (i:AIOp) (k:DK) (is:List DInstr) (acc:List TS) (all:List DInstr) (Q:Env→AHeap→Prop) (e:Env) (h:AHeap):trG P (.bool false) false d i k is acc all Q e h=trI P (⟨⟨d,i,none⟩,k⟩::is) acc all Q e h:=rfl
theorem trG_tf (d:Option Nat) (i:AIOp) (k:DK) (is:List DInstr) (acc:List TS) (all:List DInstr) (Q:Env→AHeap→Prop) (e:Env) (h:AHeap):trG P (.bool true) false d i k is acc all Q e h=trI P is (⟨e,h,false,.tup []⟩::acc) all Q (put e d (.tup [])) h:=rfl
theorem trG_ft (d:Option Nat) (i:AIOp) (k:DK) (is:List DInstr) (acc:List TS) (all:List DInstr) (Q:Env→AHeap→Prop) (e:Env) (h:AHeap):trG P (.bool false) true d i k is acc all Q e h=trI P is (⟨e,h,false,.tup []⟩::acc) all Q (put e d (.tup [])) h:=rfl
theorem trG_tup (l:List AVal) (b:Bool) (d:Option Nat) (i:AIOp) (k:DK) (is:List DInstr) (acc:List TS) (all:List DInstr) (Q:Env→AHeap→Prop) (e:Env) (h:AHeap):trG P (.tup l) b d i k is acc all Q e h=trI P is (⟨e,h,false,.tup []⟩::acc) all Q (put e d (.tup [])) h:=rfl
theorem trCall_of {f:FuncId} {args:List AVal} {h:AHeap} {d:Option Nat} {is:List DInstr} {acc:List TS} {all:List DInstr} {Q:Env→AHeap→Prop} {e:Env} {R:AVal→AHeap→Prop} (c:CallP P f args h R) (k:∀ v h',R v h'→trI P is (⟨e,h,true,v⟩::acc) all Q (put e d v) h'):trCall P f args d is acc all Q e h:=c.mono k
theorem trOp_of {o:Option (AVal×AHeap)} {d:Option Nat} {act:Bool} {is:List DInstr} {acc:List TS} {all:List DInstr} {Q:Env→AHeap→Prop} {e:Env} {h:AHeap} (w:wpOp o fun v h'=>trI P is (⟨e,h,true,v⟩::acc) all Q (put e d v) (if act then h' else h)):trOp P o d act is acc all Q e h:=w
theorem beq_int (k:IntKind) (n:Int):(AVal.int k n).beq (.int k n)=true:=by simp [AVal.beq]
theorem beq_bool (b:Bool):(AVal.bool b).beq (.bool b)=true:=by simp [AVal.beq]
theorem beq_ptr (a b c:Nat):(AVal.ptr a b c).beq (.ptr a b c)=true:=by simp [AVal.beq]
theorem beq_sl (a b c d e:Nat):(AVal.sl a b c d e).beq (.sl a b c d e)=true:=by simp [AVal.beq]
theorem beq_nils:AVal.nils.beq .nils=true:=rfl
theorem beq_nilp:AVal.nilp.beq .nilp=true:=rfl
theorem beq_agg (l:List AVal):(AVal.agg l).beq (.agg l)=AVal.beqs l l:=by simp [AVal.beq]
theorem beqs_nil:AVal.beqs [] []=true:=rfl
theorem beqs_cons (a:AVal) (l:List AVal):AVal.beqs (a::l) (a::l)=(a.beq a&&AVal.beqs l l):=by simp [AVal.beqs]
theorem rd_nil (all:List TS) (h:AHeap) (ts:List TS):readsOk all h [] ts=true:=rfl
theorem rd_cons (all:List TS) (h:AHeap) (d:DInstr) (ds:List DInstr) (t:TS) (ts:List TS):readsOk all h (d::ds) (t::ts)=(readOk all h d t&&readsOk all h ds ts):=rfl
theorem rdk_pure (all:List TS) (h:AHeap) (i:AInstr) (t:TS):readOk all h ⟨i,.pure⟩ t=true:=rfl
theorem rdk_act (all:List TS) (h:AHeap) (i:AInstr) (l:Bool) (t:TS):readOk all h ⟨i,.act l⟩ t=true:=rfl
def sameO (o:Option (AVal×AHeap)) (v:AVal):Bool:=match o with
 | some (u,_)=>u.beq v
 | none=>false
def hAt (o:Option TS) (h:AHeap):AHeap:=match o with
 | some t=>t.h
 | none=>h
def rdAll (qs:List Nat) (n:Nat) (all:List TS) (e:Env) (o:AOp) (v:AVal) (h:AHeap):Bool:=qs.all fun q=>decide (n<q)||same e o v (heapAt all h q)
theorem rdk_read (all:List TS) (h:AHeap) (d:Option Nat) (o:AOp) (g:Option (Nat×Bool)) (qs:List Nat) (t:TS):readOk all h ⟨⟨d,.op o,g⟩,.read qs⟩ t=(!t.w||rdAll qs all.length all t.e o t.v h):=rfl
theorem rdAll_nil (n:Nat) (all:List TS) (e:Env) (o:AOp) (v:AVal) (h:AHeap):rdAll [] n all e o v h=true:=rfl
theorem rdAll_cons (q:Nat) (qs:List Nat) (n:Nat) (all:List TS) (e:Env) (o:AOp) (v:AVal) (h:AHeap):rdAll (q::qs) n all e o v h=((decide (n<q)||sameO (aop e (hAt all[q]? h) o) v)&&rdAll qs n all e o v h):=rfl
theorem sameO_some (u v:AVal) (h:AHeap):sameO (some (u,h)) v=u.beq v:=rfl
theorem hAt_some (t:TS) (h:AHeap):hAt (some t) h=t.h:=rfl
theorem hAt_none (h:AHeap):hAt none h=h:=rfl
theorem cells_int (k:IntKind) (n:Int):(AVal.int k n).cells=[.int k n]:=rfl
theorem cells_bool (b:Bool):(AVal.bool b).cells=[.bool b]:=rfl
theorem cells_agg (l:List AVal):(AVal.agg l).cells=l:=rfl
theorem cells_ptr (i g o:Nat):(AVal.ptr i g o).cells=[.ptr i g o]:=rfl
theorem cells_nilp:AVal.nilp.cells=[.nilp]:=rfl
theorem cells_nils:AVal.nils.cells=[.nils]:=rfl
theorem cells_sl (i g o l s:Nat):(AVal.sl i g o l s).cells=[.sl i g o l s]:=rfl
theorem cell_int (k:IntKind) (n:Int):(AVal.int k n).cell=true:=rfl
theorem cell_bool (b:Bool):(AVal.bool b).cell=true:=rfl
theorem cell_ptr (i g o:Nat):(AVal.ptr i g o).cell=true:=rfl
theorem cell_nilp:AVal.nilp.cell=true:=rfl
theorem cell_nils:AVal.nils.cell=true:=rfl
theorem cell_sl (i g o l s:Nat):(AVal.sl i g o l s).cell=true:=rfl
/-! The slots. -/
theorem put_some (e:Env) (d:Nat) (v:AVal):put e (some d) v=Tr.set e d v:=rfl
theorem put_none (e:Env) (v:AVal):put e none v=e:=rfl
theorem val_set (e:Env) (d t:Nat) (v:AVal):Env.val (Tr.set e d v) t=bif Nat.beq t d then v else Env.val e t:=by
 unfold Env.val
 rw [Tr.get_set]
 cases hb:Nat.beq t d with
 | true=>rw [Nat.beq_eq] at hb;rw [if_pos hb];rfl
 | false=>rw [if_neg (by intro e;subst e;simp at hb)];rfl
theorem val_same (e:Env) (d:Nat) (v:AVal):Env.val (Tr.set e d v) d=v:=by rw [val_set];simp
theorem val_ne (e:Env) (d t:Nat) (v:AVal) (n:Nat.beq t d=false):Env.val (Tr.set e d v) t=Env.val e t:=by rw [val_set,n];rfl
theorem opd_tmp (e:Env) (t:Nat):opd e (.tmp t)=e.val t:=rfl
theorem opd_val (e:Env) (v:AVal):opd e (.val v)=v:=rfl
theorem opd_fnv (e:Env) (f:FuncId):opd e (.fnv f)=.fn (.func f) [] []:=rfl
theorem opd_glob (e:Env) (g:Nat):opd e (.glob g)=.ptr g 0 0:=rfl
theorem envOf_nil (i:Nat):envOf i []=.nil:=rfl
theorem envOf_cons (i:Nat) (v:AVal) (vs:List AVal):envOf i (v::vs)=Tr.set (envOf (i+1) vs) i v:=rfl
/-! The operations. -/
variable (e:Env) (h:AHeap)
theorem a_mov (x:AOpd):aop e h (.mov x)=some (opd e x,h):=rfl
theorem a_alloc (z:List AVal):aop e h (.alloc z)=some (.ptr h.n 0 0,h.push (.cells 0 false z)):=rfl
theorem a_mkIface (t:TypeId) (x:AOpd):aop e h (.mkIface t x)=some (.iface t (opd e x),h):=rfl
def pickV (c x y:AVal) (h:AHeap):Option (AVal×AHeap):=match c with
 | .bool t=>some (if t then x else y,h)
 | _=>none
theorem a_pick (c a b:AOpd):aop e h (.pick c a b)=pickV (opd e c) (opd e a) (opd e b) h:=rfl
theorem pick_true (x y:AVal):pickV (.bool true) x y h=some (x,h):=rfl
theorem pick_false (x y:AVal):pickV (.bool false) x y h=some (y,h):=rfl
theorem a_build (z:List AVal) (ps:List (Nat×Nat×AOpd)):aop e h (.build z ps)=(fillP z (ps.map fun (o,s,x)=>(o,s,opd e x))).map fun cs=>(.agg cs,h):=rfl
theorem a_buildSlice (esz n:Nat) (z:List AVal) (ps:List (Nat×AOpd)):aop e h (.buildSlice esz n z ps)=(fillP ((List.range (n*esz)).map fun i=>z.getD (i%esz) .undef) (ps.map fun (i,x)=>(i*esz,esz,opd e x))).map fun cs=>(.sl h.n 0 0 n esz,h.push (.cells 0 false cs)):=rfl
def bsV (h:AHeap) (esz:Nat) (cs:List AVal):Option (AVal×AHeap):=if cs.length=esz∧cs.all (·.cell)=true then some (.sl h.n 0 0 1 esz,h.push (.cells 0 false cs)) else none
theorem a_bs1 (esz:Nat) (z:List AVal) (x:AOpd):aop e h (.buildSlice esz 1 z [(0,x)])=bsV h esz (opd e x).cells:=by
 simp only [aop,opBuildSlice,bsV,List.map_cons,List.map_nil,fillP,Nat.one_mul,Nat.zero_mul,List.length_map,List.length_range,Nat.zero_add,Nat.le_refl,true_and,List.take_zero,List.nil_append]
 split
 ·simp only [Option.map_some,List.drop_of_length_le (show ((List.range esz).map fun i=>z.getD (i%esz) .undef).length≤esz by simp),List.append_nil]
 ·rfl
theorem bsV_eq (esz:Nat) (cs:List AVal):bsV h esz cs=if cs.length=esz∧cs.all (·.cell)=true then some (.sl h.n 0 0 1 esz,h.push (.cells 0 false cs)) else none:=rfl
theorem fill_nil (cs:List AVal):fillP cs []=some cs:=rfl
theorem fill_cons (cs : List AVal) (off size : Nat) (v : AVal) (r : List (Nat × Nat × AVal)) :
    fillP cs ((off,size,v)::r)=if v.cells.length=size∧off+size≤cs.length∧v.cells.all (·.cell)=true then fillP (cs.take off++v.cells++cs.drop (off+size)) r else none:=rfl
def ldV (h:AHeap) (n:Option Nat):AVal→Option (AVal×AHeap)
  | .ptr id g off => if id < h.n then (match n with
      | none=>(h.rd id g off 1).bind fun cs=>match cs with | [v]=>some (v,h) | _=>none
      | some n=>(h.rd id g off n).map fun cs=>(.agg cs,h)) else none
  | _=>none
def ld1 (o:Option AVal) (h:AHeap):Option (AVal×AHeap):=o.map fun v=>(v,h)
def ldO (h:AHeap) (o:AObj) (g off:Nat):Option (AVal×AHeap):=match o with
 | .cells g' _ vs=>if g'=g then ld1 vs[off]? h else none
 | _=>none
def ldN (h:AHeap) (o:AObj) (g off n:Nat):Option (AVal×AHeap):=match o with
 | .cells g' _ vs=>if g'=g∧off+n≤vs.length then some (.agg ((vs.drop off).take n),h) else none
 | _=>none
theorem a_load (n:Option Nat) (x:AOpd):aop e h (.load n x)=ldV h n (opd e x):=rfl
theorem ldV_one {id g off:Nat} (hid:id<h.n):ldV h none (.ptr id g off)=ldO h (h.get id) g off:=by
 simp only [ldV,if_pos hid,AHeap.rd,ldO]
 cases h.get id with
 | cells g' ro vs =>
  simp only
  by_cases hg:g'=g
  ·subst hg
   simp only [true_and,if_true]
   by_cases ho:off+1≤vs.length
   ·rw [if_pos ho]
    have:(vs.drop off).take 1=[vs[off]]:=by
     have:=List.drop_eq_getElem_cons (l:=vs) (i:=off) (by omega)
     rw [this];rfl
    rw [this]
    simp [ld1,List.getElem?_eq_getElem (show off<vs.length by omega)]
   ·rw [if_neg ho]
    simp [ld1,List.getElem?_eq_none (show vs.length≤off by omega)]
  ·simp [hg]
 | hole=>rfl
 | map es=>rfl
 | loop st pend en ps asg body=>rfl
theorem ldV_some {id g off n:Nat} (hid:id<h.n):ldV h (some n) (.ptr id g off)=ldN h (h.get id) g off n:=by
 simp only [ldV,if_pos hid,AHeap.rd,ldN]
 cases h.get id with
 | cells g' ro vs=>simp only;split<;>rfl
 | hole=>rfl
 | map es=>rfl
 | loop st pend en ps asg body=>rfl
theorem ldO_cells (g off:Nat) (ro:Bool) (vs:List AVal):ldO h (.cells g ro vs) g off=ld1 vs[off]? h:=by simp [ldO]
theorem ld1_some (v:AVal):ld1 (some v) h=some (v,h):=rfl
theorem ldN_cells {g off n:Nat} {ro:Bool} {vs:List AVal} (hl:off+n≤vs.length):ldN h (.cells g ro vs) g off n=some (.agg ((vs.drop off).take n),h):=by simp [ldN,hl]
def stV (h:AHeap) (n:Nat) (a:AVal) (cs:List AVal):Option (AVal×AHeap):=match a with
 | .ptr id g off=>if id<h.n∧cs.length=n then (h.wr id g off cs).map fun h'=>(.undef,h') else none
 | _=>none
def stO (h:AHeap) (id:Nat) (o:AObj) (g off:Nat) (cs:List AVal):Option (AVal×AHeap):=match o with
 | .cells g' false vs=>if g'=g∧off+cs.length≤vs.length∧cs.all (·.cell)=true then some (.undef,h.set id (.cells g false (vs.take off++cs++vs.drop (off+cs.length)))) else none
 | _=>none
theorem a_store (n:Nat) (a x:AOpd):aop e h (.store n a x)=stV h n (opd e a) (opd e x).cells:=rfl
theorem stV_ptr {id g off n:Nat} {cs:List AVal} (hid:id<h.n):stV h n (.ptr id g off) cs=if cs.length=n then stO h id (h.get id) g off cs else none:=by
 by_cases hl:cs.length=n
 ·simp only [stV,hid,hl,and_self,if_true,AHeap.wr,stO]
  cases h.get id with
  | cells g' ro vs =>
   cases ro
   ·simp only;split<;>rfl
   ·rfl
  | hole=>rfl
  | map es=>rfl
  | loop st pend en ps asg body=>rfl
 ·simp only [stV,hl,and_false,if_false]
theorem stO_cells (id g off : Nat) (vs cs : List AVal) :
    stO h id (.cells g false vs) g off cs=if off+cs.length≤vs.length∧cs.all (·.cell)=true then some (.undef,h.set id (.cells g false (vs.take off++cs++vs.drop (off+cs.length)))) else none:=by simp only [stO,true_and]
def nilV (h:AHeap):AVal→Option (AVal×AHeap)
 | .ptr id g off=>some (.ptr id g off,h)
 | .fn (.func f) a b=>some (.fn (.func f) a b,h)
 | .fn (.yield f) a b=>some (.fn (.yield f) a b,h)
 | .map id=>some (.map id,h)
 | _=>none
theorem a_nilCheck (x:AOpd):aop e h (.nilCheck x)=nilV h (opd e x):=rfl
theorem nilV_ptr (id g off:Nat):nilV h (.ptr id g off)=some (.ptr id g off,h):=rfl
def binV (h : AHeap) (op : BinOp) (x y : AVal) : Option (AVal × AHeap) := match x, y with
    | .int k a,.int l b=>(ibin op k a l b).map fun v=>(v,h)
    | .str a,.str b=>match op with
      | .eql=>some (.bool (a.data.toList==b.data.toList),h)
      | .neq=>some (.bool (!(a.data.toList==b.data.toList)),h)
      | .add=>if a.size+b.size≤1099511627776 then some (.str ⟨(a.data.toList++b.data.toList).toArray⟩,h) else none
      | .lss=>some (.bool (Op.bytesLess a.data.toList b.data.toList),h)
      | _=>none
    | .flt k a,.flt l b=>(fcmpK op k a l b).map fun v=>(.bool v,h)
    | _,_=>none
theorem a_bin (op:BinOp) (x y:AOpd):aop e h (.bin op x y)=binV h op (opd e x) (opd e y):=by
 simp only [aop,opBin,binV]
 cases opd e x<;>cases opd e y<;>rfl
theorem kEq_self (k:IntKind):kEq k k=true:=kEq_eq.2 rfl
theorem bin_add (k:IntKind) (a b:Int):binV h .add (.int k a) (.int k b)=some (.int k (k.wrap (a+b)),h):=by simp [binV,ibin,kEq_self,ibin1,wrapF_eq,addF_eq]
theorem bin_sub (k:IntKind) (a b:Int):binV h .sub (.int k a) (.int k b)=some (.int k (k.wrap (a-b)),h):=by simp [binV,ibin,kEq_self,ibin1,wrapF_eq,addF_eq,negF_eq,Int.sub_eq_add_neg]
theorem bin_mul (k:IntKind) (a b:Int):binV h .mul (.int k a) (.int k b)=some (.int k (k.wrap (a*b)),h):=by simp [binV,ibin,kEq_self,ibin1,wrapF_eq]
theorem bin_eql (k:IntKind) (a b:Int):binV h .eql (.int k a) (.int k b)=some (.bool (decide (a=b)),h):=by simp [binV,ibin,kEq_self,ibin1,ieqF_eq];rfl
theorem bin_neq (k:IntKind) (a b:Int):binV h .neq (.int k a) (.int k b)=some (.bool (!decide (a=b)),h):=by simp [binV,ibin,kEq_self,ibin1,ieqF_eq];rfl
theorem bin_lss (k:IntKind) (a b:Int):binV h .lss (.int k a) (.int k b)=some (.bool (decide (a<b)),h):=by simp [binV,ibin,kEq_self,ibin1,iltF_eq]
theorem bin_gtr (k:IntKind) (a b:Int):binV h .gtr (.int k a) (.int k b)=some (.bool (decide (b<a)),h):=by simp [binV,ibin,kEq_self,ibin1,iltF_eq]
theorem bin_leq (k:IntKind) (a b:Int):binV h .leq (.int k a) (.int k b)=some (.bool (decide (a≤b)),h):=by
 have:(!decide (b<a))=decide (a≤b):=by rw [Bool.eq_iff_iff];simp
 simp [binV,ibin,kEq_self,ibin1,iltF_eq,this]
theorem bin_geq (k:IntKind) (a b:Int):binV h .geq (.int k a) (.int k b)=some (.bool (decide (b≤a)),h):=by
 have:(!decide (a<b))=decide (b≤a):=by rw [Bool.eq_iff_iff];simp
 simp [binV,ibin,kEq_self,ibin1,iltF_eq,this]
theorem bin_feql (k:FloatKind) (a b:Nat):binV h .eql (.flt k a) (.flt k b)=some (.bool (k.format.order a b==some .eq),h):=by simp [binV,fcmpK,fkEq_self,fcmp]
theorem bin_fneq (k:FloatKind) (a b:Nat):binV h .neq (.flt k a) (.flt k b)=some (.bool (k.format.order a b != some .eq),h):=by simp [binV,fcmpK,fkEq_self,fcmp]
theorem bin_flss (k:FloatKind) (a b:Nat):binV h .lss (.flt k a) (.flt k b)=some (.bool (k.format.order a b==some .lt),h):=by simp [binV,fcmpK,fkEq_self,fcmp]
theorem bin_fgeq (k:FloatKind) (a b:Nat):binV h .geq (.flt k a) (.flt k b)=some (.bool (k.format.order a b==some .gt||k.format.order a b==some .eq),h):=by simp [binV,fcmpK,fkEq_self,fcmp]
def fbinV (h : AHeap) (op : BinOp) (x y : AVal) : Option (AVal × AHeap) := match x, y with
    | .flt k a,.flt l b=>cond (fkEq k l) ((farith op k a b).map fun n=>(.flt k n,h)) none
    | _,_=>none
theorem a_fbin (op:BinOp) (x y:AOpd):aop e h (.fbin op x y)=fbinV h op (opd e x) (opd e y):=rfl
theorem fbin_add (k:FloatKind) (a b:Nat):fbinV h .add (.flt k a) (.flt k b)=some (.flt k ((k.format.add a b).getD (nanRep k)),h):=by simp [fbinV,fkEq_self,farith]
theorem fbin_sub (k:FloatKind) (a b:Nat):fbinV h .sub (.flt k a) (.flt k b)=some (.flt k ((k.format.sub a b).getD (nanRep k)),h):=by simp [fbinV,fkEq_self,farith]
theorem fbin_mul (k:FloatKind) (a b:Nat):fbinV h .mul (.flt k a) (.flt k b)=some (.flt k ((k.format.mul a b).getD (nanRep k)),h):=by simp [fbinV,fkEq_self,farith]
theorem fbin_quo (k:FloatKind) (a b:Nat):fbinV h .quo (.flt k a) (.flt k b)=some (.flt k ((k.format.div a b).getD (nanRep k)),h):=by simp [fbinV,fkEq_self,farith]
def i2fV (h : AHeap) (k : FloatKind) : AVal → Option (AVal × AHeap)
    | .int _ n=>some (.flt k (k.nearest n),h)
    | _=>none
theorem a_i2f (k:FloatKind) (x:AOpd):aop e h (.i2f k x)=i2fV h k (opd e x):=rfl
theorem i2f_int (k:FloatKind) (j:IntKind) (n:Int):i2fV h k (.int j n)=some (.flt k (k.nearest n),h):=rfl
def f2iV (h : AHeap) (k : IntKind) : AVal → Option (AVal × AHeap)
    | .flt l b=>(f2iF k l b).map fun n=>(.int k n,h)
    | _=>none
theorem a_f2i (k:IntKind) (x:AOpd):aop e h (.f2i k x)=f2iV h k (opd e x):=rfl
theorem f2i_flt (k:IntKind) (l:FloatKind) (b:Nat):f2iV h k (.flt l b)=(f2iF k l b).map fun n=>(.int k n,h):=rfl
def f2bV (h : AHeap) : AVal → Option (AVal × AHeap)
    | .flt .f64 n=>if (FloatKind.f64.format.read n).isNaN=true then none else some (.int .u64 n,h)
    | _=>none
theorem a_f2b (x:AOpd):aop e h (.f2b x)=f2bV h (opd e x):=rfl
theorem f2b_flt (n:Nat):f2bV h (.flt .f64 n)=if (FloatKind.f64.format.read n).isNaN=true then none else some (.int .u64 n,h):=rfl
def b2fV (h : AHeap) : AVal → Option (AVal × AHeap)
    | .int .u64 n=>some (.flt .f64 n.toNat,h)
    | _=>none
theorem a_b2f (x:AOpd):aop e h (.b2f x)=b2fV h (opd e x):=rfl
theorem b2f_int (n:Int):b2fV h (.int .u64 n)=some (.flt .f64 n.toNat,h):=rfl
theorem bin_rem (k:IntKind) (a b:Int) (hb:b≠0):binV h .rem (.int k a) (.int k b)=some (.int k (a.tmod b),h):=by
 have:(b==0)=false:=by simpa using hb
 simp [binV,ibin,kEq_self,ibin1,ieqF_eq,this]
theorem bin_quo (k:IntKind) (a b:Int) (hb:b≠0):binV h .quo (.int k a) (.int k b)=some (.int k (k.wrap (a.tdiv b)),h):=by
 have:(b==0)=false:=by simpa using hb
 simp [binV,ibin,kEq_self,ibin1,ieqF_eq,wrapF_eq,this]
theorem ibits_nat {op:BinOp} {k:IntKind} {a b:Int} (h1:0≤a) (h2:a≤kMax k) (h3:0≤b) (h4:b≤kMax k):∃ m n:Nat,a=.ofNat m∧b=.ofNat n∧m=a.toNat∧n=b.toNat∧Nat.ble m (kMax k)=true∧Nat.ble n (kMax k)=true:=by
 refine ⟨a.toNat,b.toNat,(Int.toNat_of_nonneg h1).symm,(Int.toNat_of_nonneg h3).symm,rfl,rfl,?_,?_⟩<;>rw [Nat.ble_eq]<;>omega
theorem bin_or (k:IntKind) (a b:Int) (h1:0≤a) (h2:a≤kMax k) (h3:0≤b) (h4:b≤kMax k):binV h .or (.int k a) (.int k b)=some (.int k ((a.toNat ||| b.toNat:Nat):Int),h):=by
 obtain ⟨m,n,rfl,rfl,_,_,e1,e2⟩:=ibits_nat (op:=.or) h1 h2 h3 h4
 simp only [binV,ibin,kEq_self,cond_true,ibinB,ibits,e1,e2,Bool.and_self,Option.map_some];rfl
theorem bin_and (k:IntKind) (a b:Int) (h1:0≤a) (h2:a≤kMax k) (h3:0≤b) (h4:b≤kMax k):binV h .and (.int k a) (.int k b)=some (.int k ((a.toNat &&& b.toNat:Nat):Int),h):=by
 obtain ⟨m,n,rfl,rfl,_,_,e1,e2⟩:=ibits_nat (op:=.and) h1 h2 h3 h4
 simp only [binV,ibin,kEq_self,cond_true,ibinB,ibits,e1,e2,Bool.and_self,Option.map_some];rfl
theorem bin_shr (k l:IntKind) (a b:Int) (h1:0≤a) (h3:0≤b) (h4:b≤k.bits):binV h .shr (.int k a) (.int l b)=some (.int k ((a.toNat >>> b.toNat:Nat):Int),h):=by
 obtain ⟨m,rfl⟩:∃ m,a=.ofNat m:=⟨a.toNat,(Int.toNat_of_nonneg h1).symm⟩
 obtain ⟨n,rfl⟩:∃ n,b=.ofNat n:=⟨b.toNat,(Int.toNat_of_nonneg h3).symm⟩
 have hn:neg? (.ofNat n)=false:=rfl
 have hs:shiftN k (.ofNat n)=n:=by
  have h5:n≤k.bits:=by simpa using h4
  have h6:Nat.ble n k.bits=true:=by rw [Nat.ble_eq];exact h5
  simp only [shiftN,h6,cond_true]
 simp only [binV,ibin,hn,cond_false,ishr,hs,Option.map_some];rfl
def eqlV (h:AHeap) (neg:Bool) (k:EqK) (x y:AVal):Option (AVal×AHeap):=(aeq k x y).map fun b=>(.bool (if neg then !b else b),h)
theorem a_eql (neg:Bool) (k:EqK) (x y:AOpd):aop e h (.eql neg k x y)=eqlV h neg k (opd e x) (opd e y):=rfl
theorem eql_ptr_nil (id g off:Nat) (neg:Bool):eqlV h neg .ptr (.ptr id g off) .nilp=some (.bool neg,h):=by cases neg<;>rfl
theorem eql_nil_nil (neg:Bool):eqlV h neg .ptr .nilp .nilp=some (.bool (!neg),h):=by cases neg<;>rfl
theorem eql_bool (a b neg:Bool):eqlV h neg .bool (.bool a) (.bool b)=some (.bool (if neg then !(a==b) else (a==b)),h):=by cases neg<;>rfl
theorem eql_flat (neg:Bool) (ks:List LK) (xs ys:List AVal):eqlV h neg (.flat ks) (.agg xs) (.agg ys)=(litEqs ks xs ys).map fun b=>(.bool (if neg then !b else b),h):=rfl
theorem lits_nil:litEqs [] [] []=some true:=rfl
theorem lits_cons (k:LK) (ks:List LK) (x y:AVal) (xs ys:List AVal):litEqs (k::ks) (x::xs) (y::ys)=(litEq k x y).bind fun b=>(litEqs ks xs ys).map (b&&·):=rfl
theorem lit_int (k:IntKind) (a b:Int):litEq .int (.int k a) (.int k b)=some (decide (a=b)):=by simp [litEq];rfl
theorem lit_bool (a b:Bool):litEq .bool (.bool a) (.bool b)=some (a==b):=rfl
theorem boxV_eq (x:AOpd):aop e h (.box x)=if (opd e x).cells.all (·.cell)=true then some (.ptr h.n 0 0,h.push (.cells 0 false (opd e x).cells)) else none:=rfl
theorem a_not (x:AOpd):aop e h (.un .not x)=(opd e x).lit.bind fun a=>(ofSem (Op.unary .not a)).map fun v=>(v,h):=rfl
theorem not_bool (b:Bool):((AVal.bool b).lit.bind fun a=>(ofSem (Op.unary .not a)).map fun v=>(v,h))=some (.bool (!b),h):=rfl
def convV (h:AHeap) (k:IntKind):AVal→Option (AVal×AHeap)
 | .int _ n=>some (.int k (wrapF k n),h)
 | _=>none
theorem a_conv (k:IntKind) (x:AOpd):aop e h (.conv k x)=convV h k (opd e x):=rfl
theorem conv_int (k l:IntKind) (n:Int):convV h k (.int l n)=some (.int k (k.wrap n),h):=by simp [convV,wrapF_eq]
def faV (h:AHeap) (off:Nat):AVal→Option (AVal×AHeap)
 | .ptr id g o=>some (.ptr id g (o+off),h)
 | _=>none
theorem a_fieldAddr (off:Nat) (x:AOpd):aop e h (.fieldAddr off x)=faV h off (opd e x):=rfl
theorem fa_ptr (off id g o:Nat):faV h off (.ptr id g o)=some (.ptr id g (o+off),h):=rfl
def fV (h:AHeap) (off:Nat) (n:Option Nat):AVal→Option (AVal×AHeap)
 | .agg cs=>(partA n cs off).map fun v=>(v,h)
 | _=>none
theorem a_field (off:Nat) (n:Option Nat) (x:AOpd):aop e h (.field off n x)=fV h off n (opd e x):=rfl
theorem f_agg (off:Nat) (cs:List AVal):fV h off none (.agg cs)=ld1 cs[off]? h:=rfl
def exV (h:AHeap) (i:Nat):AVal→Option (AVal×AHeap)
 | .tup vs=>ld1 vs[i]? h
 | _=>none
theorem a_extract (x:AOpd) (i:Nat):aop e h (.extract x i)=exV h i (opd e x):=rfl
theorem ex_tup (i:Nat) (vs:List AVal):exV h i (.tup vs)=ld1 vs[i]? h:=rfl
def lenV (h:AHeap):AVal→Option (AVal×AHeap)
 | .nils=>some (.int .i64 0,h)
 | .sl _ _ _ len _=>some (.int .i64 len,h)
 | _=>none
theorem a_lenS (x:AOpd):aop e h (.lenS x)=lenV h (opd e x):=rfl
theorem len_nil:lenV h .nils=some (.int .i64 0,h):=rfl
theorem len_sl (i g o l s:Nat):lenV h (.sl i g o l s)=some (.int .i64 l,h):=rfl
def mmV (h : AHeap) (mx : Bool) (x y : AVal) : Option (AVal × AHeap) := match x, y with
    | .int k a,.int k' b=>if k=k' then some (.int k (if mx then (if a<b then b else a) else (if b<a then b else a)),h) else none
    | _,_=>none
theorem a_min (x y:AOpd):aop e h (.min x y)=mmV h false (opd e x) (opd e y):=rfl
theorem a_max (x y:AOpd):aop e h (.max x y)=mmV h true (opd e x) (opd e y):=rfl
theorem min_int (k:IntKind) (a b:Int):mmV h false (.int k a) (.int k b)=some (.int k (min a b),h):=by
 have:(if b<a then b else a)=min a b:=by split<;>omega
 simp only [mmV,if_true,Bool.false_eq_true,if_false,this]
theorem max_int (k:IntKind) (a b:Int):mmV h true (.int k a) (.int k b)=some (.int k (max a b),h):=by
 have:(if a<b then b else a)=max a b:=by split<;>omega
 simp only [mmV,if_true,this]
def ixV (h : AHeap) (esz : Nat) (x i : AVal) : Option (AVal × AHeap) := match x, i with
    | .sl id g off len es,.int _ n=>if 0≤n∧n<len∧es=esz∧g=h.gen id then some (.ptr id g (off+n.toNat*esz),h) else none
    | _,_=>none
theorem a_idxS (esz:Nat) (x i:AOpd):aop e h (.idxS esz x i)=ixV h esz (opd e x) (opd e i):=rfl
theorem ix_sl {id g off len esz : Nat} {k : IntKind} {n : Int} {ro : Bool} {vs : List AVal} (ho : h.get id = .cells g ro vs) (h1 : 0 ≤ n) (h2 : n < len) :
    ixV h esz (.sl id g off len esz) (.int k n)=some (.ptr id g (off+n.toNat*esz),h):=by
  have:g=h.gen id:=by simp [AHeap.gen,ho]
  simp only [ixV,h1,h2,this,and_self,if_true]
def ixO (h:AHeap) (o:AObj) (id g off:Nat):Option (AVal×AHeap):=match o with
 | .cells g' _ _=>if g'=g then some (.ptr id g off,h) else none
 | _=>if g=0 then some (.ptr id g off,h) else none
theorem ix_st {id g off len esz:Nat} {k:IntKind} {n:Int} (h1:0≤n) (h2:n<len):ixV h esz (.sl id g off len esz) (.int k n)=ixO h (h.get id) id g (off+n.toNat*esz):=by
 simp only [ixV,h1,h2,true_and,ixO,AHeap.gen]
 cases h.get id with
 | cells g' ro vs=>simp only;by_cases e:g'=g<;>first | (subst e;simp) | (simp [e,Ne.symm e])
 | hole=>rfl
 | map es=>rfl
 | loop st pend en ps asg body=>rfl
theorem ixO_cells (id g off:Nat) (ro:Bool) (vs:List AVal):ixO h (.cells g ro vs) id g off=some (.ptr id g off,h):=by simp [ixO]
def slV (h : AHeap) (esz : Nat) (x : AVal) (lo hi : Option AVal) : Option (AVal × AHeap) :=
    let l:Option Nat:=match lo with | none=>some 0 | some (.int _ n)=>if 0≤n then some n.toNat else none | _=>none
    let r:Nat→Option Nat:=fun len=>match hi with | none=>some len | some (.int _ n)=>if 0≤n then some n.toNat else none | _=>none
    match x with
    | .nils=>l.bind fun l=>(r 0).bind fun r=>if l=0∧r=0 then some (.nils,h) else none
    | .sl id g off len es=>l.bind fun l=>(r len).bind fun r=>if l≤r∧r≤len∧es=esz∧g=h.gen id then some (.sl id g (off+l*esz) (r-l) esz,h) else none
    | _=>none
theorem a_slice (esz:Nat) (x:AOpd) (lo hi:Option AOpd):aop e h (.slice esz x lo hi)=slV h esz (opd e x) (optOpd e lo) (optOpd e hi):=rfl
theorem optOpd_none:optOpd e none=none:=rfl
theorem optOpd_some (x:AOpd):optOpd e (some x)=some (opd e x):=rfl
theorem sl_from {id g off len esz : Nat} {k : IntKind} {n : Int} {ro : Bool} {vs : List AVal} (ho : h.get id = .cells g ro vs) (h1 : 0 ≤ n) (h2 : n ≤ len) :
    slV h esz (.sl id g off len esz) (some (.int k n)) none=some (.sl id g (off+n.toNat*esz) (len-n.toNat) esz,h):=by
  have:g=h.gen id:=by simp [AHeap.gen,ho]
  simp only [slV,h1,this,if_true,Option.bind_some]
  rw [if_pos ⟨by omega,Nat.le_refl _,trivial,trivial⟩]
theorem sl_upto {id g off len esz : Nat} {k : IntKind} {n : Int} {ro : Bool} {vs : List AVal} (ho : h.get id = .cells g ro vs) (h1 : 0 ≤ n) (h2 : n ≤ len) :
    slV h esz (.sl id g off len esz) none (some (.int k n))=some (.sl id g off n.toNat esz,h):=by
  have:g=h.gen id:=by simp [AHeap.gen,ho]
  simp only [slV,h1,this,if_true,Option.bind_some]
  rw [if_pos ⟨by omega,by omega,trivial,trivial⟩]
  simp
def slO (h:AHeap) (o:AObj) (id g off len esz:Nat):Option (AVal×AHeap):=match o with
 | .cells g' _ _=>if g'=g then some (.sl id g off len esz,h) else none
 | _=>if g=0 then some (.sl id g off len esz,h) else none
theorem sl_st {id g off len esz:Nat} {k:IntKind} {n:Int} (h1:0≤n) (h2:n≤len):slV h esz (.sl id g off len esz) (some (.int k n)) none=slO h (h.get id) id g (off+n.toNat*esz) (len-n.toNat) esz:=by
 have h3:n.toNat≤len:=by omega
 simp only [slV,h1,h3,if_true,Option.bind_some,true_and,slO,AHeap.gen,Nat.le_refl]
 cases h.get id with
 | cells g' ro vs=>simp only;by_cases e:g'=g<;>first | (subst e;simp) | (simp [e,Ne.symm e])
 | hole=>rfl
 | map es=>rfl
 | loop st pend en ps asg body=>rfl
theorem sl_st2 {id g off len esz:Nat} {k:IntKind} {n:Int} (h1:0≤n) (h2:n≤len):slV h esz (.sl id g off len esz) none (some (.int k n))=slO h (h.get id) id g off n.toNat esz:=by
 have h3:n.toNat≤len:=by omega
 simp only [slV,h1,h3,if_true,Option.bind_some,true_and,slO,AHeap.gen,Nat.zero_le,Nat.zero_mul,Nat.add_zero,Nat.sub_zero]
 cases h.get id with
 | cells g' ro vs=>simp only;by_cases e:g'=g<;>first | (subst e;simp) | (simp [e,Ne.symm e])
 | hole=>rfl
 | map es=>rfl
 | loop st pend en ps asg body=>rfl
theorem slO_cells (id g off len esz:Nat) (ro:Bool) (vs:List AVal):slO h (.cells g ro vs) id g off len esz=some (.sl id g off len esz,h):=by simp [slO]
theorem sl_nil_upto (esz:Nat) (k:IntKind):slV h esz .nils none (some (.int k 0))=some (.nils,h):=rfl
theorem get_push_at (o:AObj) {j:Nat} (e:j=h.n):(h.push o).get j=o:=by subst e;exact AHeap.get_push_same _ _
theorem get_set_at (o:AObj) {i j:Nat} (e:j=i):(h.set i o).get j=o:=by subst e;exact AHeap.get_set_same _ _ _
theorem a_append (esz bytes:Nat) (x y:AOpd):aop e h (.append esz bytes x y)=h.app esz bytes (opd e x) (opd e y):=rfl
/-! More operations. -/
theorem bin_shl (k l:IntKind) (a b:Int) (h3:0≤b):binV h .shl (.int k a) (.int l b)=some (.int k (k.wrap (a*2^min b.toNat k.bits)),h):=by
  have hn:neg? b=false:=by rw [neg?_eq,decide_eq_false_iff_not];omega
  have e1:ofSem (binOp .shl 0 (.int k a) (.int l b))=some (.int k (ishl k a b)):=ibin_sem (by simp only [ibin,hn,cond_false])
  have e2:ofSem (binOp .shl 0 (.int k a) (.int l b))=some (.int k (k.wrap (a*2^min b.toNat k.bits))):=by
    show ofSem (Op.shift .shl k a l b)=_
    simp only [Op.shift,if_neg (show ¬ b<0 by omega)];rfl
  rw [e1] at e2
  simp only [binV,ibin,hn,cond_false,Option.map_some]
  rw [Option.some.inj e2]
theorem bin_xor (k:IntKind) (a b:Int) (h1:0≤a) (h2:a≤kMax k) (h3:0≤b) (h4:b≤kMax k):binV h .xor (.int k a) (.int k b)=some (.int k ((a.toNat ^^^ b.toNat:Nat):Int),h):=by
 obtain ⟨m,n,rfl,rfl,_,_,e1,e2⟩:=ibits_nat (op:=.xor) h1 h2 h3 h4
 simp only [binV,ibin,kEq_self,cond_true,ibinB,ibits,e1,e2,Bool.and_self,Option.map_some];rfl
theorem bin_str_eql (a b:ByteArray):binV h .eql (.str a) (.str b)=some (.bool (a.data.toList==b.data.toList),h):=rfl
theorem bin_str_neq (a b:ByteArray):binV h .neq (.str a) (.str b)=some (.bool (!(a.data.toList==b.data.toList)),h):=rfl
theorem eql_ifc_nil (t:TypeId) (v:AVal) (neg:Bool):eqlV h neg .iface (.iface t v) .nili=some (.bool neg,h):=by cases neg<;>rfl
theorem eql_nili_nil (neg:Bool):eqlV h neg .iface .nili .nili=some (.bool (!neg),h):=by cases neg<;>rfl
theorem eql_sl_nil (id g off len es:Nat) (neg:Bool):eqlV h neg .slice (.sl id g off len es) .nils=some (.bool neg,h):=by cases neg<;>rfl
theorem eql_nils_nil (neg:Bool):eqlV h neg .slice .nils .nils=some (.bool (!neg),h):=by cases neg<;>rfl
def iaV (h : AHeap) (esz len : Nat) (x i : AVal) : Option (AVal × AHeap) := match x, i with
    | .ptr id g off,.int _ n=>if 0≤n∧n<len then some (.ptr id g (off+n.toNat*esz),h) else none
    | _,_=>none
theorem a_idxA (esz len:Nat) (x i:AOpd):aop e h (.idxA esz len x i)=iaV h esz len (opd e x) (opd e i):=rfl
theorem ia_ptr {id g off esz len:Nat} {k:IntKind} {n:Int} (h1:0≤n) (h2:n<len):iaV h esz len (.ptr id g off) (.int k n)=some (.ptr id g (off+n.toNat*esz),h):=by simp only [iaV,h1,h2,and_self,if_true]
def asV (h : AHeap) (t : TypeId) (ok : Bool) (zero x : AVal) : Option (AVal × AHeap) := match x with
    | .iface t' v=>if t'=t then some (if ok then .tup [v,.bool true] else v,h) else if ok then some (.tup [zero,.bool false],h) else none
    | .nili=>if ok then some (.tup [zero,.bool false],h) else none
    | _=>none
theorem a_assertT (t:TypeId) (ok:Bool) (z:AVal) (x:AOpd):aop e h (.assertT t ok z x)=asV h t ok z (opd e x):=rfl
theorem as_same (t:TypeId) (z v:AVal):asV h t true z (.iface t v)=some (.tup [v,.bool true],h):=by simp [asV]
theorem as_same1 (t:TypeId) (z v:AVal):asV h t false z (.iface t v)=some (v,h):=by simp [asV]
theorem a_mkFn (f:Fn) (a b:List AOpd):aop e h (.mkFn f a b)=some (.fn f (a.map (opd e)) (b.map (opd e)),h):=rfl
theorem f_aggN {off n:Nat} {cs:List AVal} (hl:off+n≤cs.length):fV h off (some n) (.agg cs)=some (.agg ((cs.drop off).take n),h):=by simp [fV,partA,hl]
def inV (h : AHeap) (esz len : Nat) (m : Option Nat) (x i : AVal) : Option (AVal × AHeap) := match x, i with
    | .agg cs,.int _ n=>if 0≤n∧n<len then (partA m cs (n.toNat*esz)).map fun v=>(v,h) else none
    | _,_=>none
theorem a_index (esz len:Nat) (m:Option Nat) (x i:AOpd):aop e h (.index esz len m x i)=inV h esz len m (opd e x) (opd e i):=rfl
theorem in_agg {cs:List AVal} {esz len:Nat} {k:IntKind} {n:Int} (h1:0≤n) (h2:n<len):inV h esz len none (.agg cs) (.int k n)=ld1 cs[n.toNat*esz]? h:=by simp only [inV,h1,h2,and_self,if_true];rfl
def b2sV (h : AHeap) : AVal → Option (AVal × AHeap)
    | .nils=>some (.str .empty,h)
    | .sl id g off len 1=>if len=0 then some (.str .empty,h) else if id<h.n then (h.rd id g off len).bind fun cs=>(asBytes cs).map fun bs=>(.str ⟨bs.toArray⟩,h) else none
    | _=>none
theorem a_b2s (x:AOpd):aop e h (.b2s x)=b2sV h (opd e x):=rfl
def msV (h : AHeap) (esz bytes : Nat) (zero : List AVal) : AVal → Option (AVal × AHeap)
    | .int k n=>if 0≤n∧n.toNat*bytes≤1099511627776∧n.toNat*esz≤1099511627776 then some (.sl h.n 0 0 n.toNat esz,h.push (.cells 0 false ((List.range (n.toNat*esz)).map fun i=>zero.getD (i%esz) .undef))) else none
    | _=>none
theorem a_mkSlice (esz bytes:Nat) (z:List AVal) (x:AOpd):aop e h (.mkSlice esz bytes z x)=msV h esz bytes z (opd e x):=rfl
def isV (h : AHeap) (x i : AVal) : Option (AVal × AHeap) := match x, i with
    | .str s,.int _ n=>if 0≤n then s[n.toNat]?.map fun b=>(.int .u8 b.toNat,h) else none
    | _,_=>none
theorem a_indexStr (x i:AOpd):aop e h (.indexStr x i)=isV h (opd e x) (opd e i):=rfl
def ltV (h : AHeap) : AVal → Option (AVal × AHeap)
    | .str s=>some (.int .i64 s.size,h)
    | _=>none
theorem a_lenT (x:AOpd):aop e h (.lenT x)=ltV h (opd e x):=rfl
theorem lt_str (s:ByteArray):ltV h (.str s)=some (.int .i64 s.size,h):=rfl
theorem sl_both {id g off len esz:Nat} {k k':IntKind} {m n:Int} (h1:0≤m) (h2:m≤n) (h3:n≤len):slV h esz (.sl id g off len esz) (some (.int k m)) (some (.int k' n))=slO h (h.get id) id g (off+m.toNat*esz) (n.toNat-m.toNat) esz:=by
 have h4:m.toNat≤n.toNat:=by omega
 have h5:n.toNat≤len:=by omega
 have h6:0≤n:=by omega
 simp only [slV,h1,h6,if_true,Option.bind_some,h4,h5,true_and,slO,AHeap.gen]
 cases h.get id with
 | cells g' ro vs=>simp only;by_cases e:g'=g<;>first | (subst e;simp) | (simp [e,Ne.symm e])
 | hole=>rfl
 | map es=>rfl
 | loop st pend en ps asg body=>rfl
def cpV (h : AHeap) (esz : Nat) (x y : AVal) : Option (AVal × AHeap) := match x with
    | .nils=>(h.elems esz y).map fun _=>(.int .i64 0,h)
    | .sl id g off len es=>if es=esz∧id<h.n then (h.elems esz y).bind fun (m,ys)=>(h.wr id g off (ys.take (min m len*esz))).map fun h'=>(.int .i64 (min m len:Nat),h') else none
    | _=>none
theorem a_copy (esz:Nat) (x y:AOpd):aop e h (.copy esz x y)=cpV h esz (opd e x) (opd e y):=by
 simp only [aop,opCopy,cpV];cases opd e x<;>rfl
end Go.AM
namespace Go.AM
set_option linter.unusedSimpArgs false
set_option linter.unusedVariables false
structure HFrame (h h':AHeap) (F F':List Nat):Prop where
 n:h.n≤h'.n
 g:h'.g=h.g
 get:∀ j,j<h.n→j ∉ F→h'.get j=h.get j
 new:∀ j,j∈F'→j∈F∨h.n≤j
 lt:∀ j,j∈F'→j<h'.n
theorem HFrame.refl {h:AHeap} {F:List Nat} (l:∀ j,j∈F→j<h.n):HFrame h h F F:=⟨Nat.le_refl _,rfl,fun _ _ _=>rfl,fun _ h=>.inl h,l⟩
theorem HFrame.trans {h h1 h2:AHeap} {F F1 F2:List Nat} (a:HFrame h h1 F F1) (b:HFrame h1 h2 F1 F2):HFrame h h2 F F2 where
 n:=Nat.le_trans a.n b.n
 g:=b.g.trans a.g
 get:=fun j hj hn=>by
  rw [b.get j (Nat.lt_of_lt_of_le hj a.n) (fun hm=>?_),a.get j hj hn]
  rcases a.new j hm with e | e
  ·exact hn e
  ·omega
 new:=fun j hj=>by
  rcases b.new j hj with e | e
  ·exact a.new j e
  ·exact .inr (Nat.le_trans a.n e)
 lt:=b.lt
theorem HFrame.wide {h h':AHeap} {F F':List Nat} (a:HFrame h h' F F') {G G':List Nat} (hF:∀ j,j∈F→j∈G) (hG:∀ j,j∈G'→j∈F'∨j∈G) (hl:∀ j,j∈G→j<h.n):HFrame h h' G G' where
 n:=a.n
 g:=a.g
 get:=fun j hj hn=>a.get j hj fun hm=>hn (hF j hm)
 new:=fun j hj=>by
  rcases hG j hj with e | e
  ·rcases a.new j e with q | q
   ·exact .inl (hF j q)
   ·exact .inr q
  ·exact .inl e
 lt:=fun j hj=>by
  rcases hG j hj with e | e
  ·exact a.lt j e
  ·exact Nat.lt_of_lt_of_le (hl j e) a.n
def SlRd (h:AHeap) (esz:Nat) {α:Type} (enc:α→List AVal) (v:AVal) (l:List α):Prop :=
 (v=.nils∧l=[])∨∃ id g off vs ro,v=.sl id g off l.length esz∧h.get id=.cells g ro vs∧id<h.n∧off+l.length*esz≤vs.length∧(vs.drop off).take (l.length*esz)=l.flatMap enc
def SlOf (h:AHeap) (esz:Nat) {α:Type} (enc:α→List AVal) (v:AVal) (l:List α) (F:List Nat):Prop :=
 (v=.nils∧l=[]∧F=[])∨∃ id g off vs,v=.sl id g off l.length esz∧h.get id=.cells g false vs∧id<h.n∧off+l.length*esz=vs.length∧vs.drop off=l.flatMap enc∧F=[id]
variable {α:Type} {enc:α→List AVal} {esz:Nat} {h h':AHeap} {v:AVal} {l:List α} {F:List Nat}
theorem SlOf.rd (s:SlOf h esz enc v l F):SlRd h esz enc v l:=by
 rcases s with ⟨a,b,_⟩ | ⟨id,g,off,vs,a,b,c,d,e,_⟩
 ·exact .inl ⟨a,b⟩
 ·exact .inr ⟨id,g,off,vs,false,a,b,c,by omega,by rw [←e,List.take_of_length_le];simp;omega⟩
theorem SlOf.frame (s:SlOf h esz enc v l F) (hn:h.n≤h'.n) (k:∀ j,j∈F→h'.get j=h.get j):SlOf h' esz enc v l F:=by
 rcases s with ⟨a,b,c⟩ | ⟨id,g,off,vs,a,b,c,d,e,f⟩
 ·exact .inl ⟨a,b,c⟩
 ·exact .inr ⟨id,g,off,vs,a,by rw [k id (by simp [f])];exact b,by omega,d,e,f⟩
theorem SlOf.lt (s:SlOf h esz enc v l F):∀ j,j∈F→j<h.n:=by
 rcases s with ⟨a,b,c⟩ | ⟨id,g,off,vs,a,b,c,d,e,f⟩
 ·simp [c]
 ·simp [f,c]
theorem SlRd.len (s:SlRd h esz enc v l) (h':AHeap):lenV h' v=some (.int .i64 l.length,h'):=by
 rcases s with ⟨a,b⟩ | ⟨id,g,off,vs,ro,a,b,c,d,e⟩
 ·rw [a,b];rfl
 ·rw [a];rfl
theorem SlOf.len (s:SlOf h esz enc v l F) (h':AHeap):lenV h' v=some (.int .i64 l.length,h'):=s.rd.len h'
theorem flat_len {l:List α} (hE:∀ a,(enc a).length=esz):(l.flatMap enc).length=l.length*esz:=by
 induction l with
 | nil=>simp
 | cons a l ih=>simp only [List.flatMap_cons,List.length_append,hE,ih,List.length_cons,Nat.add_mul];omega
theorem flat_drop {l:List α} (hE:∀ a,(enc a).length=esz):∀ (i:Nat),(l.flatMap enc).drop (i*esz)=(l.drop i).flatMap enc:=by
 induction l with
 | nil=>simp
 | cons a l ih =>
  intro i
  cases i with
  | zero=>simp
  | succ i =>
   simp only [List.flatMap_cons,List.drop_succ_cons]
   rw [List.drop_append,←ih i,hE,List.drop_eq_nil_of_le (by rw [hE,Nat.add_mul];omega)]
   simp only [List.nil_append]
   congr 1
   rw [Nat.add_mul];omega
theorem mul_lt_len {i n esz:Nat} (h:i<n):i*esz+esz≤n*esz:=by
 have:=Nat.mul_le_mul_right esz (show i+1≤n by omega)
 rw [Nat.add_mul] at this;omega
theorem SlRd.at (s : SlRd h esz enc v l) (hE : ∀ a, (enc a).length = esz) {i : Nat} {a : α} (hi : l[i]? = some a) :
    ∃ id g off vs ro,v=.sl id g off l.length esz∧h.get id=.cells g ro vs∧id<h.n∧off+i*esz+esz≤vs.length∧(vs.drop (off+i*esz)).take esz=enc a∧i<l.length:=by
  have hlt:i<l.length:=(List.getElem?_eq_some_iff.1 hi).1
  rcases s with ⟨_,b⟩ | ⟨id,g,off,vs,ro,e1,e2,e3,e4,e5⟩
  · subst b;simp at hlt
  · have h1:=mul_lt_len (esz:=esz) hlt
    refine ⟨id,g,off,vs,ro,e1,e2,e3,by omega,?_,hlt⟩
    have h2:((l.flatMap enc).drop (i*esz)).take esz=enc a:=by
      rw [flat_drop hE]
      have:l.drop i=a::l.drop (i+1):=by
        rw [List.drop_eq_getElem_cons hlt];congr 1
        have:=List.getElem?_eq_getElem hlt
        rw [hi] at this;exact (Option.some.inj this).symm
      rw [this,List.flatMap_cons,List.take_append_of_le_length (by rw [hE];omega),List.take_of_length_le (by rw [hE];omega)]
    rw [←h2,←e5,List.drop_take,List.take_take,List.drop_drop,Nat.min_eq_left (by omega)]
theorem SlRd.ix (s : SlRd h esz enc v l) (hE : ∀ a, (enc a).length = esz) {i : Nat} {a : α} (hi : l[i]? = some a) (k : IntKind) :
    ∃ id g off vs ro,ixV h esz v (.int k i)=some (.ptr id g off,h)∧h.get id=.cells g ro vs∧id<h.n∧off+esz≤vs.length∧(vs.drop off).take esz=enc a:=by
  obtain ⟨id,g,off,vs,ro,e1,e2,e3,e4,e5,e6⟩:=s.at hE hi
  refine ⟨id,g,off+i*esz,vs,ro,?_,e2,e3,e4,e5⟩
  rw [e1,ix_sl h e2 (Int.natCast_nonneg _) (by omega)]
  simp
theorem one_of {vs:List AVal} {off:Nat} {a:AVal} (e:(vs.drop off).take 1=[a]):vs[off]?=some a:=by
 have h1:((vs.drop off).take 1)[0]?=some a:=by rw [e];rfl
 rw [List.getElem?_take,if_pos (by omega),List.getElem?_drop] at h1
 exact h1
theorem SlRd.ix1 {enc : α → AVal} (s : SlRd h 1 (fun a => [enc a]) v l) {i : Nat} {a : α} (hi : l[i]? = some a) (k : IntKind) :
    ∃ id g off vs ro,ixV h 1 v (.int k i)=some (.ptr id g off,h)∧h.get id=.cells g ro vs∧id<h.n∧vs[off]?=some (enc a):=by
  obtain ⟨id,g,off,vs,ro,e1,e2,e3,e4,e5⟩:=s.ix (fun _=>rfl) hi k
  exact ⟨id,g,off,vs,ro,e1,e2,e3,one_of e5⟩
theorem SlOf.cons {a : α} (s : SlOf h esz enc v (a :: l) F) (hE : ∀ a, (enc a).length = esz) :
    ∃ id g off vs,v=.sl id g off (l.length+1) esz∧h.get id=.cells g false vs∧id<h.n∧off+esz≤vs.length∧(vs.drop off).take esz=enc a∧F=[id]∧SlOf h esz enc (.sl id g (off+esz) l.length esz) l F:=by
  rcases s with ⟨_,b,_⟩ | ⟨id,g,off,vs,e1,e2,e3,e4,e5,e6⟩
  · cases b
  · have e7:off+esz+l.length*esz=vs.length:=by rw [←e4,List.length_cons,Nat.add_mul];omega
    refine ⟨id,g,off,vs,e1,e2,e3,by omega,?_,e6,.inr ⟨id,g,off+esz,vs,rfl,e2,e3,e7,?_,e6⟩⟩
    · rw [e5,List.flatMap_cons,List.take_append_of_le_length (by rw [hE];omega),List.take_of_length_le (by rw [hE];omega)]
    · rw [←List.drop_drop,e5,List.flatMap_cons,List.drop_append_of_le_length (by rw [hE];omega),List.drop_of_length_le (by rw [hE];omega)]
      rfl
theorem SlOf.tail {a : α} (s : SlOf h esz enc v (a :: l) F) (hE : ∀ a, (enc a).length = esz) (k : IntKind) :
    ∃ v',slV h esz v (some (.int k 1)) none=some (v',h)∧SlOf h esz enc v' l F:=by
  rcases s with ⟨_,b,_⟩ | ⟨id,g,off,vs,e1,e2,e3,e4,e5,e6⟩
  · cases b
  · refine ⟨.sl id g (off+esz) l.length esz,?_,.inr ⟨id,g,off+esz,vs,rfl,e2,e3,?_,?_,e6⟩⟩
    · rw [e1,sl_from h e2 (by omega) (by simp only [List.length_cons];omega)]
      simp
    · rw [←e4,List.length_cons,Nat.add_mul];omega
    · rw [←List.drop_drop,e5,List.flatMap_cons,List.drop_append_of_le_length (by rw [hE];omega),List.drop_of_length_le (by rw [hE];omega)]
      rfl
theorem SlRd.elems (s:SlRd h esz enc v l):h.elems esz v=some (l.length,l.flatMap enc):=by
 rcases s with ⟨a,b⟩ | ⟨id,g,off,vs,ro,a,b,c,d,e⟩
 ·subst a b;rfl
 ·rw [a]
  by_cases h0:l.length=0
  ·have:l=[]:=List.eq_nil_of_length_eq_zero h0
   subst this
   simp [AHeap.elems,c]
  ·simp only [AHeap.elems,c,and_self,if_true,AHeap.rd,b,d,e,Option.map_some,if_neg h0]
theorem SlOf.app (s : SlOf h esz enc v l F) {y : AVal} {l2 : List α} (t : SlRd h esz enc y l2) (hE : ∀ a, (enc a).length = esz) (hC : ∀ a, (enc a).all (·.cell) = true) {bytes : Nat} (hb : (l.length + l2.length) * bytes ≤ 1099511627776) {k : AVal → AHeap → Prop}
    (w:∀ v' h' F',SlOf h' esz enc v' (l++l2) F'→HFrame h h' F F'→k v' h'):wpOp (h.app esz bytes v y) k:=by
  have hcs:(l2.flatMap enc).all (·.cell)=true:=by
    rw [List.all_eq_true];intro x hx
    obtain ⟨a,_,ha⟩:=List.mem_flatMap.1 hx
    exact List.all_eq_true.1 (hC a) x ha
  unfold AHeap.app
  rw [t.elems,Option.bind_some]
  simp only
  have hlt:=s.lt
  rcases s with ⟨a,b,c⟩ | ⟨id,g,off,vs,e1,e2,e3,e4,e5,e6⟩
  · subst a b c
    simp only
    by_cases h0:l2.length=0
    · rw [if_pos h0]
      have:l2=[]:=List.eq_nil_of_length_eq_zero h0
      subst this
      exact w _ _ [] (.inl ⟨rfl,rfl,rfl⟩) (HFrame.refl (by simp))
    · rw [if_neg h0,if_pos ⟨by simpa using hb,hcs⟩]
      refine w _ _ [h.n] (.inr ⟨h.n,0,0,_,rfl,AHeap.get_push_same _ _,by simp,?_,by simp,rfl⟩) ⟨by simp,rfl,fun j hj _=>AHeap.get_push_ne h _ (by omega),fun j hj=>.inr (by simp at hj;omega),fun j hj=>by simp at hj;simp;omega⟩
      rw [flat_len hE];simp
  · subst e1 e6
    simp only
    by_cases h0:l2.length=0
    · rw [if_pos h0,if_pos (by simp [AHeap.gen,e2])]
      have:l2=[]:=List.eq_nil_of_length_eq_zero h0
      subst this
      refine w _ _ [id] ?_ (HFrame.refl hlt)
      rw [List.append_nil]
      exact .inr ⟨id,g,off,vs,rfl,e2,e3,e4,e5,rfl⟩
    · rw [if_neg h0,if_pos ⟨trivial,e3,hb,hcs⟩]
      simp only [e2]
      rw [if_pos ⟨trivial,by omega⟩]
      have e7:(vs.drop off).take (l.length*esz)=l.flatMap enc:=by rw [e5,List.take_of_length_le (by rw [flat_len hE];omega)]
      refine w _ _ [id] (.inr ⟨id,g+1,0,_,by rw [List.length_append],AHeap.get_set_same _ _ _,e3,?_,?_,rfl⟩) ⟨by simp,rfl,fun j hj hn=>AHeap.get_set_ne h _ (by simpa using hn),fun j hj=>.inl hj,hlt⟩
      · rw [e7,List.length_append,List.length_append,flat_len hE,flat_len hE,Nat.add_mul];simp
      · rw [e7];simp
theorem HFrame.push (h:AHeap) (o:AObj) {F:List Nat} (l:∀ j,j∈F→j<h.n):HFrame h (h.push o) F F where
 n:=by simp
 g:=rfl
 get:=fun j hj _=>AHeap.get_push_ne h o (by omega)
 new:=fun j hj=>.inl hj
 lt:=fun j hj=>by have:=l j hj;simp;omega
theorem HFrame.set (h:AHeap) (i:Nat) (o:AObj) {F:List Nat} (hi:i∈F) (l:∀ j,j∈F→j<h.n):HFrame h (h.set i o) F F where
 n:=by simp
 g:=rfl
 get:=fun j hj hn=>AHeap.get_set_ne h o (by intro e;subst e;exact hn hi)
 new:=fun j hj=>.inl hj
 lt:=fun j hj=>by simpa using l j hj
theorem SlOf.app1 (s : SlOf h esz enc v l F) (hE : ∀ a, (enc a).length = esz) (hC : ∀ a, (enc a).all (·.cell) = true) {bytes : Nat} (hb : (l.length + 1) * bytes ≤ 1099511627776) (a : α) {k : AVal → AHeap → Prop}
    (w:∀ v' h' F',SlOf h' esz enc v' (l++[a]) F'→HFrame h h' F F'→k v' h'):wpOp ((h.push (.cells 0 false (enc a))).app esz bytes v (.sl h.n 0 0 1 esz)) k:=by
  have f:=HFrame.push h (.cells 0 false (enc a)) s.lt
  refine SlOf.app (s.frame (h':=h.push (.cells 0 false (enc a))) f.n fun j hj=>AHeap.get_push_ne h _ (by have:=s.lt j hj;omega)) (l2:=[a]) ?_ hE hC (by simpa using hb) fun v' h' F' s' f'=>w v' h' F' s' (f.trans f')
  refine .inr ⟨h.n,0,0,enc a,false,rfl,AHeap.get_push_same _ _,by simp,by simp [hE],?_⟩
  simp [List.take_of_length_le,hE]
theorem HFrame.setTmp {h h1:AHeap} {F F':List Nat} (f:HFrame h h1 F F') {i:Nat} (hi:h.n≤i) (o:AObj):HFrame h (h1.set i o) F F' where
 n:=f.n
 g:=f.g
 get:=fun j hj hn=>by rw [AHeap.get_set_ne h1 o (by omega)];exact f.get j hj hn
 new:=f.new
 lt:=f.lt
theorem HFrame.pushTmp {h h1:AHeap} {F F':List Nat} (f:HFrame h h1 F F') (o:AObj):HFrame h (h1.push o) F F' where
 n:=by have:=f.n;simp;omega
 g:=f.g
 get:=fun j hj hn=>by rw [AHeap.get_push_ne h1 o (by have:=f.n;omega)];exact f.get j hj hn
 new:=f.new
 lt:=fun j hj=>by have:=f.lt j hj;simp;omega
theorem HFrame.out {h h1:AHeap} {F F':List Nat} (f:HFrame h h1 F F') {i:Nat} (hF:i ∉ F) (hi:i<h.n):i ∉ F':=fun hm=>by
 rcases f.new i hm with e | e
 ·exact hF e
 ·omega
theorem SlRd.beq (s:SlRd h esz enc v l):v.beq v=true:=by
 rcases s with ⟨rfl,_⟩ | ⟨_,_,_,_,_,rfl,_⟩
 ·rfl
 ·exact AM.beq_sl _ _ _ _ _
theorem SlOf.beq (s:SlOf h esz enc v l F):v.beq v=true:=s.rd.beq
theorem SlRd.cells (s:SlRd h esz enc v l):v.cells=[v]∧v.cell=true:=by
 rcases s with ⟨rfl,_⟩ | ⟨_,_,_,_,_,rfl,_⟩<;>exact ⟨rfl,rfl⟩
theorem SlRd.mono (s:SlRd h esz enc v l) (hn:h.n≤h'.n) (k:∀ j,j<h.n→(∃ x,h.get j=x)→h'.get j=h.get j):SlRd h' esz enc v l:=by
 rcases s with ⟨a,b⟩ | ⟨id,g,off,vs,ro,a,b,c,d,e⟩
 ·exact .inl ⟨a,b⟩
 ·exact .inr ⟨id,g,off,vs,ro,a,by rw [k id c ⟨_,rfl⟩];exact b,by omega,d,e⟩
theorem SlRd.keep (s:SlRd h esz enc v l) {F':List Nat} (f:HFrame h h' [] F'):SlRd h' esz enc v l:=s.mono f.n fun j hj _=>f.get j hj (by simp)
theorem SlOf.nil:SlOf h esz enc .nils ([]:List α) []:=.inl ⟨rfl,rfl,rfl⟩
theorem wrap64 {n:Int} (h1:-9223372036854775808≤n) (h2:n≤9223372036854775807):IntKind.i64.wrap n=n:=by
 rw [wrap_eq];simp only;split<;>omega
theorem wrapU64 {n:Int} (h1:0≤n) (h2:n≤18446744073709551615):IntKind.u64.wrap n=n:=by
 rw [wrap_eq];simp only;omega
theorem take_succ_of {l:List α} {i:Nat} {a:α} (hi:l[i]?=some a):l.take (i+1)=l.take i++[a]:=by
 rw [List.take_add_one,hi];rfl
theorem SlOf.push (s:SlOf h esz enc v l F) (o:AObj):SlOf (h.push o) esz enc v l F:=s.frame (by simp) fun j hj=>AHeap.get_push_ne h o (by have:=s.lt j hj;omega)
theorem SlOf.set (s:SlOf h esz enc v l F) {i:Nat} (hi:i ∉ F) (o:AObj):SlOf (h.set i o) esz enc v l F:=s.frame (by simp) fun j hj=>AHeap.get_set_ne h o (by intro e;subst e;exact hi hj)
theorem SlOf.tmp (s:SlOf h esz enc v l F) (o o':AObj):SlOf ((h.push o).set h.n o') esz enc v l F:=(s.push o).set (fun hm=>Nat.lt_irrefl _ (s.lt _ hm)) o'
theorem SlRd.upto (s:SlRd h esz enc v l) (hE:∀ a,(enc a).length=esz) {m:Nat} (hm:m≤l.length) (k:IntKind):∃ v',slV h esz v none (some (.int k m))=some (v',h)∧SlRd h esz enc v' (l.take m):=by
 rcases s with ⟨a,b⟩ | ⟨id,g,off,vs,ro,a,b,c,d,e⟩
 ·subst a b
  have:m=0:=by simpa using hm
  subst this
  exact ⟨.nils,rfl,.inl ⟨rfl,rfl⟩⟩
 ·subst a
  have h1:=Nat.mul_le_mul_right esz hm
  refine ⟨.sl id g off m esz,?_,.inr ⟨id,g,off,vs,ro,by rw [List.length_take,Nat.min_eq_left hm],b,c,by rw [List.length_take,Nat.min_eq_left hm];omega,?_⟩⟩
  ·rw [AM.sl_st2 h (Int.natCast_nonneg _) (by omega),b,AM.slO_cells];rfl
  ·rw [List.length_take,Nat.min_eq_left hm]
   have h2:((l.take m).flatMap enc++(l.drop m).flatMap enc).take (m*esz)=(l.take m).flatMap enc:=by
    rw [List.take_append_of_le_length (by rw [flat_len hE,List.length_take,Nat.min_eq_left hm];exact Nat.le_refl _),List.take_of_length_le (by rw [flat_len hE,List.length_take,Nat.min_eq_left hm];exact Nat.le_refl _)]
   rw [←List.flatMap_append,List.take_append_drop] at h2
   rw [←h2,←e,List.take_take,Nat.min_eq_left h1]
theorem HFrame.left {h h1 h2:AHeap} {A B A2:List Nat} (hf:HFrame h h1 [] (A++B)) (f:HFrame h1 h2 A A2):HFrame h h2 [] (A2++B) where
 n:=Nat.le_trans hf.n f.n
 g:=f.g.trans hf.g
 get:=fun j hj _=>(f.get j (Nat.lt_of_lt_of_le hj hf.n) fun hm=>by
  rcases hf.new j (by simp [hm]) with q | q
  ·cases q
  ·omega).trans (hf.get j hj (by simp))
 new:=fun j hj=>by
  rcases List.mem_append.1 hj with q | q
  ·rcases f.new j q with q | q
   ·exact hf.new j (by simp [q])
   ·exact .inr (Nat.le_trans hf.n q)
  ·exact hf.new j (by simp [q])
 lt:=fun j hj=>by
  rcases List.mem_append.1 hj with q | q
  ·exact f.lt j q
  ·exact Nat.lt_of_lt_of_le (hf.lt j (by simp [q])) f.n
theorem HFrame.swap {h h1:AHeap} {A B:List Nat} (hf:HFrame h h1 [] (A++B)):HFrame h h1 [] (B++A) :=
 ⟨hf.n,hf.g,hf.get,fun j hj=>hf.new j (by simp only [List.mem_append] at hj ⊢;exact hj.symm),fun j hj=>hf.lt j (by simp only [List.mem_append] at hj ⊢;exact hj.symm)⟩
theorem HFrame.right {h h1 h2:AHeap} {A B B2:List Nat} (hf:HFrame h h1 [] (A++B)) (f:HFrame h1 h2 B B2):HFrame h h2 [] (A++B2):=(hf.swap.left f).swap
theorem HFrame.dis {h h1:AHeap} {A A2 B:List Nat} (f:HFrame h h1 A A2) (hd:∀ j,j∈B→j ∉ A) (hl:∀ j,j∈B→j<h.n):∀ j,j∈B→j ∉ A2:=fun j hj=>f.out (hd j hj) (hl j hj)
def SlIn (h:AHeap) (esz:Nat) {α:Type} (enc:α→List AVal) (v:AVal) (l:List α):Prop :=
 SlRd h esz enc v l∨(l=[]∧∃ id off,v=.sl id 0 off 0 esz∧id<h.n∧h.gen id=0)
theorem SlIn.len (s:SlIn h esz enc v l) (h':AHeap):lenV h' v=some (.int .i64 l.length,h'):=by
 rcases s with s | ⟨rfl,id,off,rfl,_⟩
 ·exact s.len h'
 ·rfl
theorem SlIn.mono (s:SlIn h esz enc v l) (hn:h.n≤h'.n) (k:∀ j,j<h.n→h'.get j=h.get j):SlIn h' esz enc v l:=by
 rcases s with s | ⟨rfl,id,off,rfl,e1,e2⟩
 ·exact .inl (s.mono hn fun j hj _=>k j hj)
 ·exact .inr ⟨rfl,id,off,rfl,by omega,by unfold AHeap.gen at e2 ⊢;rw [k id e1];exact e2⟩
theorem SlIn.keep (s:SlIn h esz enc v l) {F':List Nat} (f:HFrame h h' [] F'):SlIn h' esz enc v l:=s.mono f.n fun j hj=>f.get j hj (by simp)
theorem SlIn.rd (s:SlIn h esz enc v l) {i:Nat} {a:α} (hi:l[i]?=some a):SlRd h esz enc v l:=by
 rcases s with s | ⟨rfl,_⟩
 ·exact s
 ·simp at hi
end Go.AM
namespace Go.AM
theorem qJ:type_of% (And.intro (And.intro (And.intro (And.intro (And.intro @w_skip (And.intro @w_region @w_seq)) (And.intro (And.intro @w_cond @w_block) (And.intro @w_loop @w_exit))) (And.intro (And.intro @w_ret (And.intro @q_seq @q_seq_exit)) (And.intro (And.intro @q_seq_ret @q_blk) (And.intro @q_blk_ret @q_blk_same)))) (And.intro (And.intro (And.intro @q_blk_ne (And.intro @q_loop @q_loop_exit)) (And.intro (And.intro @q_loop_ret @q_ret) (And.intro @q_ret_normal @is_nil))) (And.intro (And.intro @is_op (And.intro @is_call @is_guard)) (And.intro (And.intro @opI_some @opI_drop) (And.intro @fnI_fn @fnI_yld))))) (And.intro (And.intro (And.intro (And.intro @w_range (And.intro @rangeI_fn @q_body)) (And.intro (And.intro @q_body_ret @q_body_exit) (And.intro @gI_tt @gI_ff))) (And.intro (And.intro @gI_tf (And.intro @gI_ft @gI_tup)) (And.intro (And.intro @cI_true @cI_false) (And.intro @w_draw @tr_nil)))) (And.intro (And.intro (And.intro @tr_pure (And.intro @tr_read @tr_act)) (And.intro (And.intro @tr_call @tr_guard) (And.intro @trOp_some @trOp_act))) (And.intro (And.intro (And.intro @trOp_drop @trFn_fn) (And.intro @trG_tt @trG_ff)) (And.intro (And.intro @trG_tf @trG_ft) (And.intro @trG_tup @val_same)))))):=(And.intro (And.intro (And.intro (And.intro (And.intro @w_skip (And.intro @w_region @w_seq)) (And.intro (And.intro @w_cond @w_block) (And.intro @w_loop @w_exit))) (And.intro (And.intro @w_ret (And.intro @q_seq @q_seq_exit)) (And.intro (And.intro @q_seq_ret @q_blk) (And.intro @q_blk_ret @q_blk_same)))) (And.intro (And.intro (And.intro @q_blk_ne (And.intro @q_loop @q_loop_exit)) (And.intro (And.intro @q_loop_ret @q_ret) (And.intro @q_ret_normal @is_nil))) (And.intro (And.intro @is_op (And.intro @is_call @is_guard)) (And.intro (And.intro @opI_some @opI_drop) (And.intro @fnI_fn @fnI_yld))))) (And.intro (And.intro (And.intro (And.intro @w_range (And.intro @rangeI_fn @q_body)) (And.intro (And.intro @q_body_ret @q_body_exit) (And.intro @gI_tt @gI_ff))) (And.intro (And.intro @gI_tf (And.intro @gI_ft @gI_tup)) (And.intro (And.intro @cI_true @cI_false) (And.intro @w_draw @tr_nil)))) (And.intro (And.intro (And.intro @tr_pure (And.intro @tr_read @tr_act)) (And.intro (And.intro @tr_call @tr_guard) (And.intro @trOp_some @trOp_act))) (And.intro (And.intro (And.intro @trOp_drop @trFn_fn) (And.intro @trG_tt @trG_ff)) (And.intro (And.intro @trG_tf @trG_ft) (And.intro @trG_tup @val_same))))))
theorem qK:type_of% (And.intro (And.intro (And.intro (And.intro (And.intro (And.intro (And.intro @res_nil @res_tmp) (And.intro @res_tmp2 (And.intro @res_tmp3 @res_cell))) (And.intro (And.intro @retO_some @op_some) (And.intro @beq_int (And.intro @beq_bool @beq_ptr)))) (And.intro (And.intro (And.intro @beq_sl @beq_nils) (And.intro @beq_nilp (And.intro @beq_agg @beqs_nil))) (And.intro (And.intro @beqs_cons @rd_nil) (And.intro @rd_cons (And.intro @rdk_pure @rdk_act))))) (And.intro (And.intro (And.intro (And.intro @rdk_read @rdAll_nil) (And.intro @rdAll_cons (And.intro @sameO_some @hAt_some))) (And.intro (And.intro @hAt_none @cells_int) (And.intro @cells_bool (And.intro @cells_agg @cells_ptr)))) (And.intro (And.intro (And.intro @cells_nilp @cells_nils) (And.intro @cells_sl (And.intro @cell_int @cell_bool))) (And.intro (And.intro @cell_ptr (And.intro @cell_nilp @cell_nils)) (And.intro @cell_sl (And.intro @put_some @put_none)))))) (And.intro (And.intro (And.intro (And.intro (And.intro @val_ne @opd_tmp) (And.intro @opd_val (And.intro @opd_fnv @opd_glob))) (And.intro (And.intro @envOf_nil @envOf_cons) (And.intro @a_mov (And.intro @a_alloc @a_mkIface)))) (And.intro (And.intro (And.intro @a_pick @pick_true) (And.intro @pick_false (And.intro @a_build @a_bs1))) (And.intro (And.intro @bsV_eq (And.intro @fill_nil @fill_cons)) (And.intro @a_load (And.intro @ldV_one @ldV_some))))) (And.intro (And.intro (And.intro (And.intro @ldO_cells @ld1_some) (And.intro @ldN_cells (And.intro @a_store @stV_ptr))) (And.intro (And.intro @stO_cells @a_nilCheck) (And.intro @nilV_ptr (And.intro @a_bin @bin_add)))) (And.intro (And.intro (And.intro @bin_sub @bin_mul) (And.intro @bin_eql (And.intro @bin_neq @bin_lss))) (And.intro (And.intro @bin_gtr (And.intro @bin_leq @bin_geq)) (And.intro @bin_feql (And.intro @bin_fneq @bin_flss))))))) (And.intro (And.intro (And.intro (And.intro (And.intro (And.intro @bin_fgeq @a_fbin) (And.intro @fbin_add (And.intro @fbin_sub @fbin_mul))) (And.intro (And.intro @fbin_quo @a_i2f) (And.intro @i2f_int (And.intro @a_f2i @f2i_flt)))) (And.intro (And.intro (And.intro @a_f2b @f2b_flt) (And.intro @a_b2f (And.intro @b2f_int @bin_rem))) (And.intro (And.intro @bin_quo @bin_or) (And.intro @bin_and (And.intro @bin_shr @a_eql))))) (And.intro (And.intro (And.intro (And.intro @eql_ptr_nil @eql_nil_nil) (And.intro @eql_bool (And.intro @eql_flat @lits_nil))) (And.intro (And.intro @lits_cons @lit_int) (And.intro @lit_bool (And.intro @boxV_eq @a_not)))) (And.intro (And.intro (And.intro @not_bool @a_conv) (And.intro @conv_int (And.intro @a_fieldAddr @fa_ptr))) (And.intro (And.intro @a_field (And.intro @f_agg @a_extract)) (And.intro @ex_tup (And.intro @a_lenS @len_nil)))))) (And.intro (And.intro (And.intro (And.intro (And.intro @len_sl @a_min) (And.intro @a_max (And.intro @min_int @max_int))) (And.intro (And.intro @a_idxS @ix_st) (And.intro @ixO_cells (And.intro @a_slice @optOpd_none)))) (And.intro (And.intro (And.intro @optOpd_some @sl_st) (And.intro @sl_st2 (And.intro @slO_cells @sl_nil_upto))) (And.intro (And.intro @get_push_at (And.intro @get_set_at @a_append)) (And.intro @bin_shl (And.intro @bin_xor @bin_str_eql))))) (And.intro (And.intro (And.intro (And.intro @bin_str_neq @eql_ifc_nil) (And.intro @eql_nili_nil (And.intro @eql_sl_nil @eql_nils_nil))) (And.intro (And.intro @a_idxA @ia_ptr) (And.intro @a_assertT (And.intro @as_same @as_same1)))) (And.intro (And.intro (And.intro @a_mkFn @f_aggN) (And.intro @a_index (And.intro @in_agg @a_b2s))) (And.intro (And.intro @a_mkSlice (And.intro @a_indexStr @a_lenT)) (And.intro @lt_str (And.intro @sl_both @a_copy)))))))):=(And.intro (And.intro (And.intro (And.intro (And.intro (And.intro (And.intro @res_nil @res_tmp) (And.intro @res_tmp2 (And.intro @res_tmp3 @res_cell))) (And.intro (And.intro @retO_some @op_some) (And.intro @beq_int (And.intro @beq_bool @beq_ptr)))) (And.intro (And.intro (And.intro @beq_sl @beq_nils) (And.intro @beq_nilp (And.intro @beq_agg @beqs_nil))) (And.intro (And.intro @beqs_cons @rd_nil) (And.intro @rd_cons (And.intro @rdk_pure @rdk_act))))) (And.intro (And.intro (And.intro (And.intro @rdk_read @rdAll_nil) (And.intro @rdAll_cons (And.intro @sameO_some @hAt_some))) (And.intro (And.intro @hAt_none @cells_int) (And.intro @cells_bool (And.intro @cells_agg @cells_ptr)))) (And.intro (And.intro (And.intro @cells_nilp @cells_nils) (And.intro @cells_sl (And.intro @cell_int @cell_bool))) (And.intro (And.intro @cell_ptr (And.intro @cell_nilp @cell_nils)) (And.intro @cell_sl (And.intro @put_some @put_none)))))) (And.intro (And.intro (And.intro (And.intro (And.intro @val_ne @opd_tmp) (And.intro @opd_val (And.intro @opd_fnv @opd_glob))) (And.intro (And.intro @envOf_nil @envOf_cons) (And.intro @a_mov (And.intro @a_alloc @a_mkIface)))) (And.intro (And.intro (And.intro @a_pick @pick_true) (And.intro @pick_false (And.intro @a_build @a_bs1))) (And.intro (And.intro @bsV_eq (And.intro @fill_nil @fill_cons)) (And.intro @a_load (And.intro @ldV_one @ldV_some))))) (And.intro (And.intro (And.intro (And.intro @ldO_cells @ld1_some) (And.intro @ldN_cells (And.intro @a_store @stV_ptr))) (And.intro (And.intro @stO_cells @a_nilCheck) (And.intro @nilV_ptr (And.intro @a_bin @bin_add)))) (And.intro (And.intro (And.intro @bin_sub @bin_mul) (And.intro @bin_eql (And.intro @bin_neq @bin_lss))) (And.intro (And.intro @bin_gtr (And.intro @bin_leq @bin_geq)) (And.intro @bin_feql (And.intro @bin_fneq @bin_flss))))))) (And.intro (And.intro (And.intro (And.intro (And.intro (And.intro @bin_fgeq @a_fbin) (And.intro @fbin_add (And.intro @fbin_sub @fbin_mul))) (And.intro (And.intro @fbin_quo @a_i2f) (And.intro @i2f_int (And.intro @a_f2i @f2i_flt)))) (And.intro (And.intro (And.intro @a_f2b @f2b_flt) (And.intro @a_b2f (And.intro @b2f_int @bin_rem))) (And.intro (And.intro @bin_quo @bin_or) (And.intro @bin_and (And.intro @bin_shr @a_eql))))) (And.intro (And.intro (And.intro (And.intro @eql_ptr_nil @eql_nil_nil) (And.intro @eql_bool (And.intro @eql_flat @lits_nil))) (And.intro (And.intro @lits_cons @lit_int) (And.intro @lit_bool (And.intro @boxV_eq @a_not)))) (And.intro (And.intro (And.intro @not_bool @a_conv) (And.intro @conv_int (And.intro @a_fieldAddr @fa_ptr))) (And.intro (And.intro @a_field (And.intro @f_agg @a_extract)) (And.intro @ex_tup (And.intro @a_lenS @len_nil)))))) (And.intro (And.intro (And.intro (And.intro (And.intro @len_sl @a_min) (And.intro @a_max (And.intro @min_int @max_int))) (And.intro (And.intro @a_idxS @ix_st) (And.intro @ixO_cells (And.intro @a_slice @optOpd_none)))) (And.intro (And.intro (And.intro @optOpd_some @sl_st) (And.intro @sl_st2 (And.intro @slO_cells @sl_nil_upto))) (And.intro (And.intro @get_push_at (And.intro @get_set_at @a_append)) (And.intro @bin_shl (And.intro @bin_xor @bin_str_eql))))) (And.intro (And.intro (And.intro (And.intro @bin_str_neq @eql_ifc_nil) (And.intro @eql_nili_nil (And.intro @eql_sl_nil @eql_nils_nil))) (And.intro (And.intro @a_idxA @ia_ptr) (And.intro @a_assertT (And.intro @as_same @as_same1)))) (And.intro (And.intro (And.intro @a_mkFn @f_aggN) (And.intro @a_index (And.intro @in_agg @a_b2s))) (And.intro (And.intro @a_mkSlice (And.intro @a_indexStr @a_lenT)) (And.intro @lt_str (And.intro @sl_both @a_copy))))))))
theorem qL:type_of% (And.intro (And.intro (And.intro (And.intro (And.intro @List.reverse_cons.{0} (And.intro @List.reverse_nil.{0} @Bool.or_true)) (And.intro (And.intro @Bool.true_or @Bool.false_or) (And.intro @Bool.or_false @List.map_cons.{0,0}))) (And.intro (And.intro @List.map_nil.{0,0} (And.intro @List.nil_append.{0} @List.append_nil.{0})) (And.intro (And.intro @List.cons_append.{0} @List.getElem?_cons_zero.{0}) (And.intro @List.getElem?_cons_succ.{0} @AHeap.n_push)))) (And.intro (And.intro (And.intro @AHeap.n_set (And.intro @AHeap.get_set_same @AHeap.get_push_same)) (And.intro (And.intro @AHeap.get_set_ne @AHeap.get_push_ne) (And.intro @List.length_cons.{0} @List.length_nil.{0}))) (And.intro (And.intro (And.intro @List.take_succ_cons.{0} @List.take_zero.{0}) (And.intro @List.drop_succ_cons.{0} @List.drop_zero.{0})) (And.intro (And.intro @List.drop_nil.{0} @List.take_nil.{0}) (And.intro @Nat.zero_add @Nat.add_zero))))) (And.intro (And.intro (And.intro (And.intro @Nat.zero_mul (And.intro @Nat.one_mul @Nat.mul_one)) (And.intro (And.intro @Nat.add_sub_cancel @Nat.sub_zero) (And.intro @Int.toNat_zero @Int.toNat_one))) (And.intro (And.intro @Int.toNat_natCast (And.intro @List.getElem?_nil.{0} @Option.map_some.{0,0})) (And.intro (And.intro @Option.bind_some.{0,0} @List.all_cons.{0}) (And.intro @List.all_nil.{0} @Bool.and_self)))) (And.intro (And.intro (And.intro @Bool.and_false (And.intro @Bool.false_and @Bool.and_true)) (And.intro (And.intro @Bool.true_and @and_self) (And.intro @and_true @true_and))) (And.intro (And.intro (And.intro @eq_self.{1} @if_true.{1}) (And.intro @Bool.not_true @Bool.not_false)) (And.intro (And.intro @Bool.false_eq_true @if_false.{1}) (And.intro @decide_true @decide_false)))))):=(And.intro (And.intro (And.intro (And.intro (And.intro @List.reverse_cons.{0} (And.intro @List.reverse_nil.{0} @Bool.or_true)) (And.intro (And.intro @Bool.true_or @Bool.false_or) (And.intro @Bool.or_false @List.map_cons.{0,0}))) (And.intro (And.intro @List.map_nil.{0,0} (And.intro @List.nil_append.{0} @List.append_nil.{0})) (And.intro (And.intro @List.cons_append.{0} @List.getElem?_cons_zero.{0}) (And.intro @List.getElem?_cons_succ.{0} @AHeap.n_push)))) (And.intro (And.intro (And.intro @AHeap.n_set (And.intro @AHeap.get_set_same @AHeap.get_push_same)) (And.intro (And.intro @AHeap.get_set_ne @AHeap.get_push_ne) (And.intro @List.length_cons.{0} @List.length_nil.{0}))) (And.intro (And.intro (And.intro @List.take_succ_cons.{0} @List.take_zero.{0}) (And.intro @List.drop_succ_cons.{0} @List.drop_zero.{0})) (And.intro (And.intro @List.drop_nil.{0} @List.take_nil.{0}) (And.intro @Nat.zero_add @Nat.add_zero))))) (And.intro (And.intro (And.intro (And.intro @Nat.zero_mul (And.intro @Nat.one_mul @Nat.mul_one)) (And.intro (And.intro @Nat.add_sub_cancel @Nat.sub_zero) (And.intro @Int.toNat_zero @Int.toNat_one))) (And.intro (And.intro @Int.toNat_natCast (And.intro @List.getElem?_nil.{0} @Option.map_some.{0,0})) (And.intro (And.intro @Option.bind_some.{0,0} @List.all_cons.{0}) (And.intro @List.all_nil.{0} @Bool.and_self)))) (And.intro (And.intro (And.intro @Bool.and_false (And.intro @Bool.false_and @Bool.and_true)) (And.intro (And.intro @Bool.true_and @and_self) (And.intro @and_true @true_and))) (And.intro (And.intro (And.intro @eq_self.{1} @if_true.{1}) (And.intro @Bool.not_true @Bool.not_false)) (And.intro (And.intro @Bool.false_eq_true @if_false.{1}) (And.intro @decide_true @decide_false))))))
theorem qN:type_of% (And.intro (And.intro @AHeap.n_push @AHeap.n_set) (And.intro @List.length_cons.{0} @List.length_nil.{0})):=(And.intro (And.intro @AHeap.n_push @AHeap.n_set) (And.intro @List.length_cons.{0} @List.length_nil.{0}))
end Go.AM
namespace Go.AM
set_option linter.unusedSimpArgs false
open Go.RowKit Go.ChangeShapes Go.WideShapes
set_option linter.unusedVariables false
theorem calls_of {P : Program} {AP : AProg} (ok : ProgOk P AP) {f : FuncId} {args : List AVal} {h : AHeap} {β : Pl} {w : World} {vs : Array Value} {Q : AVal → AHeap → Prop}
    (c:CallP AP f args h Q) (R:Rel h β w) (hg:GOk P h) (hv:vrels h β args vs.toList) (hno:∀ id,id<h.n→(h.get id).own=false) (hq:∀ r h',Q r h'→r=.bool true) :
    Calls P f vs w fun e w'=>e=.returned (.bool true)∧Grown w w'∧∀ b,b<w.heap.size→w'.heap[b]?=w.heap[b]?:=by
  obtain ⟨N,v,h',e,q⟩:=c
  have:=hq v h' q
  subst this
  refine (((sound ok N).1.2 f args _ _ _ (e N (Nat.le_refl _))).2 β w vs R hg hv).mono ?_
  rintro e w' ⟨β',R',X,x,rfl,hx⟩
  simp only [vrel] at hx
  subst hx
  exact ⟨rfl,X.grown hno,fun b hb=>X.keep b hb fun id hid ho=>by rw [hno id hid] at ho;cases ho⟩
end Go.AM
namespace Go.AM
set_option linter.unusedVariables false
theorem wpIs_mono {P:AProg}:∀ (is:List AInstr) {Q Q':Env→AHeap→Prop} (i:∀ e h,Q e h→Q' e h) (e:Env) (h:AHeap),wpIs P is Q e h→wpIs P is Q' e h
 | [],Q,Q',i,e,h,w=>i e h w
 | a::is,Q,Q',i,e,h,w=>by
  simp only [wpIs] at w ⊢
  cases hg:wanted e a.guard with
  | none=>rw [hg] at w;exact w.elim
  | some b =>
   rw [hg] at w
   cases b with
   | false=>exact wpIs_mono is i _ _ w
   | true =>
    simp only [wpG] at w ⊢
    cases ho:a.op with
    | op o =>
     rw [ho] at w
     simp only at w ⊢
     cases hx:aop e h o with
     | none=>rw [hx] at w;exact w.elim
     | some p=>rw [hx] at w;exact wpIs_mono is i _ _ w
    | call f args =>
     rw [ho] at w
     simp only at w ⊢
     unfold wpFnY at w ⊢
     split at w
     ·exact w.mono fun v h' w=>wpIs_mono is i _ _ w
     ·exact w.mono fun v h' w=>wpIs_mono is i _ _ w
     ·exact w.elim
    | panic x=>rw [ho] at w;exact w.elim
theorem wpTr_mono {P:AProg}:∀ (is:List DInstr) {Q Q':List TS→Env→AHeap→Prop} (i:∀ ts e h,Q ts e h→Q' ts e h) (e:Env) (h:AHeap),wpTr P is Q e h→wpTr P is Q' e h
 | [],Q,Q',i,e,h,w=>i [] e h w
 | a::is,Q,Q',i,e,h,w=>by
  simp only [wpTr] at w ⊢
  cases hg:wanted e a.i.guard with
  | none=>rw [hg] at w;exact w.elim
  | some b =>
   rw [hg] at w
   cases b with
   | false=>exact wpTr_mono is (fun ts e h q=>i _ e h q) _ _ w
   | true =>
    simp only [wpG] at w ⊢
    cases ho:a.i.op with
    | op o =>
     rw [ho] at w
     simp only at w ⊢
     cases hx:aop e h o with
     | none=>rw [hx] at w;exact w.elim
     | some p=>rw [hx] at w;exact wpTr_mono is (fun ts e h q=>i _ e h q) _ _ w
    | call f args =>
     rw [ho] at w
     simp only at w ⊢
     cases hk:a.k with
     | act last =>
      rw [hk] at w
      simp only at w ⊢
      unfold wpFn at w ⊢
      split at w
      ·exact w.mono fun v h' w=>wpTr_mono is (fun ts e h q=>i _ e h q) _ _ w
      ·exact w.elim
     | pure=>rw [hk] at w;exact w.elim
     | read qs=>rw [hk] at w;exact w.elim
    | panic x=>rw [ho] at w;exact w.elim
theorem rangeQ_mono {id:Nat} {Q Q':Post} (i:∀ x e h,Q x e h→Q' x e h) {e:Env} {h:AHeap} (w:rangeQ id Q e h):rangeQ id Q' e h:=by
 unfold rangeQ at w ⊢
 split at w
 ·exact ⟨w.1,i _ _ _ w.2⟩
 ·exact w.elim
theorem wp_mono {P:AProg}:∀ (c:ACode) {Q Q':Post} (i:∀ x e h,Q x e h→Q' x e h) (e:Env) (h:AHeap),wp P c Q e h→wp P c Q' e h
  | .skip,Q,Q',i,e,h,w=>i _ _ _ w
  | .exit id,Q,Q',i,e,h,w=>i _ _ _ w
  | .ret,Q,Q',i,e,h,w=>i _ _ _ w
  | .range f ps asg body,Q,Q',i,e,h,w=>by
    simp only [wp] at w ⊢
    unfold wpRange at w ⊢
    split at w
    · exact w.mono fun v h' w=>rangeQ_mono i w
    · exact w.elim
  | .region is,Q,Q',i,e,h,w=>wpIs_mono is (fun e h q=>i _ e h q) e h w
  | .draw is,Q,Q',i,e,h,w=>wpTr_mono is (fun ts e h q=>⟨q.1,i _ e h q.2⟩) e h w
  | .seq a b, Q, Q', i, e, h, w => wp_mono a (fun x e h q => by
      cases x with
      | normal=>exact wp_mono b i e h q
      | exit id=>exact i _ _ _ q
      | ret=>exact i _ _ _ q
      | panic v=>exact i _ _ _ q) e h w
  | .cond c a b,Q,Q',i,e,h,w=>by
    simp only [wp] at w ⊢
    unfold wpC at w ⊢
    split at w
    · exact wp_mono a i e h w
    · exact wp_mono b i e h w
    · exact w.elim
  | .block id b, Q, Q', i, e, h, w => wp_mono b (fun x e h q => by
      cases x with
      | normal=>exact i _ _ _ q
      | exit id' =>
        simp only [blkQ] at q ⊢
        split at q
        · rename_i hh;rw [if_pos hh];exact i _ _ _ q
        · rename_i hh;rw [if_neg hh];exact i _ _ _ q
      | ret=>exact i _ _ _ q
      | panic v=>exact i _ _ _ q) e h w
  | .loop b,Q,Q',i,e,h,w=>by
    obtain ⟨I,k,h0,hs⟩:=w
    refine ⟨I,k,h0,fun k e h hi=>wp_mono b (fun x e h q=>?_) e h (hs k e h hi)⟩
    cases x with
    | normal=>exact q
    | exit id=>exact i _ _ _ q
    | ret=>exact i _ _ _ q
    | panic v=>exact i _ _ _ q
theorem cI_cut {P:AProg} {v:AVal} {a b:ACode} {Q:Post} {e:Env} {h:AHeap} (J:Env→AHeap→Prop) (h1:∀ e' h',J e' h'→Q .normal e' h') (h2:cI P v a b (fun x e' h'=>x=.normal∧J e' h') e h):cI P v a b Q e h:=by
 unfold cI wpC at h2 ⊢
 split at h2
 ·exact wp_mono a (fun x e h q=>by obtain ⟨rfl,q⟩:=q;exact h1 _ _ q) e h h2
 ·exact wp_mono b (fun x e h q=>by obtain ⟨rfl,q⟩:=q;exact h1 _ _ q) e h h2
 ·exact h2.elim
end Go.AM
namespace Go.AM
open Go.RowKit Go.ChangeShapes Go.WideShapes
set_option linter.unusedVariables false
end Go.AM
namespace Go.AM
open Go.RowKit Go.ChangeShapes Go.WideShapes
set_option linter.unusedVariables false
def AD {H:Type} (P:Program) (h:AHeap):Nat→TypeId→List AVal→DataW H→Prop
  | 0,_,_,_=>False
  | n+1,t,cs,d=>match P.underlying t with
    | some (.int k)=>∃ m,cs=[.int k m]∧d=.lit (.int k m)∧(Lit.int k m).wf=true
    | some .bool=>∃ b,cs=[.bool b]∧d=.lit (.bool b)
    | some .string=>∃ s:ByteArray,cs=[.str s]∧d=.lit (.string s.data.toList)
    | some (.slice e) => (cs = [.nils] ∧ d = .nil) ∨ ∃ (id : Nat) (el rest : List (DataW H)) (rows : List (List AVal)), cs = [.sl id 0 0 el.length (P.cellsOf e)] ∧ d = .slice el rest ∧ id < h.n ∧ rows.length = el.length ∧
        (h.get id=.cells 0 true rows.flatten∨(el=[]∧h.gen id=0))∧∀ (i:Nat) (row:List AVal) (x:DataW H),rows[i]?=some row→el[i]?=some x→row.length=P.cellsOf e∧AD P h n e row x
    | some (.struct fs) => ∃ (pcs : List (List AVal)) (parts : List (DataW H)), cs = pcs.flatten ∧ d = .agg parts ∧ pcs.length = fs.size ∧ parts.length = fs.size ∧
        ∀ (i:Nat) (f:Field) (pc:List AVal) (x:DataW H),fs[i]?=some f→pcs[i]?=some pc→parts[i]?=some x→pc.length=P.cellsOf f.type∧AD P h n f.type pc x
    | _=>False
structure Grow (h:AHeap) (β:Pl) (h':AHeap) (β':Pl):Prop where
 ext:HExt h β h' β'
 g:h'.g=h.g
 get:∀ j,j<h.n→h'.get j=h.get j
theorem Grow.refl (h:AHeap) (β:Pl):Grow h β h β:=⟨HExt.refl h β,rfl,fun _ _=>rfl⟩
theorem Grow.trans {h:AHeap} {β:Pl} {h1:AHeap} {β1:Pl} {h2:AHeap} {β2:Pl} (a:Grow h β h1 β1) (b:Grow h1 β1 h2 β2):Grow h β h2 β2 :=
 ⟨a.ext.trans b.ext,b.g.trans a.g,fun j hj=>(b.get j (Nat.lt_of_lt_of_le hj a.ext.1.1)).trans (a.get j hj)⟩
theorem AD.mono {H:Type} {P:Program} {h h':AHeap} (hn:h.n≤h'.n) (hg:∀ j,j<h.n→h'.get j=h.get j):∀ (n:Nat) (t:TypeId) (cs:List AVal) (d:DataW H),AD P h n t cs d→AD P h' n t cs d
 | 0,_,_,_,a=>a.elim
 | n+1,t,cs,d,a=>by
  unfold AD at a ⊢
  split at a
  ·exact a
  ·exact a
  ·exact a
  ·rename_i e _
   rcases a with a | ⟨id,el,rest,rows,a1,a2,a3,a4,a5,a6⟩
   ·exact .inl a
   ·refine .inr ⟨id,el,rest,rows,a1,a2,by omega,a4,?_,fun i row x h1 h2=>⟨(a6 i row x h1 h2).1,AD.mono hn hg n _ _ _ (a6 i row x h1 h2).2⟩⟩
    rcases a5 with a5 | ⟨a5,a7⟩
    ·exact .inl ((hg id a3).trans a5)
    ·exact .inr ⟨a5,by unfold AHeap.gen at a7 ⊢;rw [hg id a3];exact a7⟩
  ·obtain ⟨pcs,parts,a1,a2,a3,a4,a5⟩:=a
   exact ⟨pcs,parts,a1,a2,a3,a4,fun i f pc x h1 h2 h3=>⟨(a5 i f pc x h1 h2 h3).1,AD.mono hn hg n _ _ _ (a5 i f pc x h1 h2 h3).2⟩⟩
  ·exact a.elim
structure RO (h:AHeap) (β:Pl) (W:World):Prop where
 rel:Rel h β W
 own:∀ j,(h.get j).own=false
theorem RO.push {h : AHeap} {β : Pl} {W : World} (R : RO h β W) {o : AObj} (ho : o.own = false) (hg : o = .hole ∨ ∃ vs, o = .cells 0 true vs) (l : Loc) (hr : ∀ (x : HExt h β (h.push o) (updP β h.n l)), orel (h.push o) (updP β h.n l) W l o) (hgl : h.g ≤ h.n) :
    RO (h.push o) (updP β h.n l) W∧Grow h β (h.push o) (updP β h.n l):=by
  have hx:HExt h β (h.push o) (updP β h.n l):=by
    refine ⟨by simp,fun j hj=>?_⟩
    have:(h.push o).gen j=h.gen j:=by unfold AHeap.gen;rw [AHeap.get_push_ne h o (by omega)]
    rw [this];exact ⟨Nat.le_refl _,fun _=>updP_ne β l (by omega)⟩
  have own':∀ j,((h.push o).get j).own=false:=fun j=>by
    rw [AHeap.get_push]
    split
    · exact ho
    · exact R.own j
  refine ⟨⟨⟨fun j hj=>?_,fun i j _ _ _ hi=>absurd hi (by rw [own'];simp),fun j hj=>?_,fun j hj=>?_⟩,own'⟩,hx,rfl,fun j hj=>AHeap.get_push_ne h o (by omega)⟩
  · by_cases e:j=h.n
    · subst e;rw [AHeap.get_push_same,updP_same];exact hr hx
    · have hj':j<h.n:=by simp at hj;omega
      rw [AHeap.get_push_ne h o e,updP_ne β l e]
      exact (R.rel.obj j hj').mono hx fun _=>rfl
  · rw [AHeap.get_push_ne h o (by simp at hj;omega)];exact R.rel.top j (by simp at hj;omega)
  · obtain ⟨g1,g2,g3,g4,g5⟩:=R.rel.glob j hj
    have e:j≠h.n:=by omega
    have e1:(h.push o).gen j=h.gen j:=by unfold AHeap.gen;rw [AHeap.get_push_ne h o e]
    exact ⟨by simp;omega,own' j,by rw [e1];exact g3,by rw [updP_ne β l e];exact g4,by rw [updP_ne β l e];exact g5⟩
end Go.AM
namespace Go.AM
open Go.RowKit Go.ChangeShapes Go.WideShapes
set_option linter.unusedVariables false
def SlR (h:AHeap) (esz:Nat) {α:Type} (R:α→List AVal→Prop) (v:AVal) (l:List α):Prop :=
 (v=.nils∧l=[])∨(∃ id off,v=.sl id 0 off 0 esz∧l=[]∧id<h.n∧h.gen id=0) ∨
 ∃ (id g off:Nat) (vs:List AVal) (ro:Bool) (rows:List (List AVal)),v=.sl id g off l.length esz∧h.get id=.cells g ro vs∧id<h.n∧off+l.length*esz≤vs.length∧(vs.drop off).take (l.length*esz)=rows.flatten∧rows.length=l.length∧(∀ row,row∈rows→row.length=esz) ∧
  ∀ (i:Nat) (a:α) (row:List AVal),l[i]?=some a→rows[i]?=some row→R a row
variable {α:Type} {esz:Nat} {R:α→List AVal→Prop} {h h':AHeap} {v:AVal} {l:List α}
theorem SlR.len (s:SlR h esz R v l) (h':AHeap):lenV h' v=some (.int .i64 l.length,h'):=by
 rcases s with ⟨rfl,rfl⟩ | ⟨id,off,rfl,rfl,_⟩ | ⟨id,g,off,vs,ro,rows,rfl,_⟩<;>rfl
theorem SlR.mono (s:SlR h esz R v l) {R':α→List AVal→Prop} (hR:∀ a row,R a row→R' a row) (hn:h.n≤h'.n) (k:∀ j,j<h.n→h'.get j=h.get j):SlR h' esz R' v l:=by
 rcases s with ⟨rfl,rfl⟩ | ⟨id,off,rfl,rfl,e1,e2⟩ | ⟨id,g,off,vs,ro,rows,rfl,e1,e2,e0,e3,e4,e5,e6⟩
 ·exact .inl ⟨rfl,rfl⟩
 ·exact .inr (.inl ⟨id,off,rfl,rfl,by omega,by unfold AHeap.gen at e2 ⊢;rw [k id e1];exact e2⟩)
 ·exact .inr (.inr ⟨id,g,off,vs,ro,rows,rfl,by rw [k id e2];exact e1,by omega,e0,e3,e4,e5,fun i a row h1 h2=>hR _ _ (e6 i a row h1 h2)⟩)
theorem flatten_at {rows:List (List AVal)} (he:∀ row,row∈rows→row.length=esz):∀ (i:Nat) (row:List AVal),rows[i]?=some row→i*esz+esz≤rows.flatten.length∧(rows.flatten.drop (i*esz)).take esz=row:=by
 induction rows with
 | nil=>intro i row h;simp at h
 | cons r rs ih =>
  intro i row hi
  have hr:r.length=esz:=he r List.mem_cons_self
  cases i with
  | zero =>
   simp only [List.getElem?_cons_zero,Option.some.injEq] at hi
   subst hi
   simp only [Nat.zero_mul,List.flatten_cons,List.length_append,List.drop_zero]
   exact ⟨by omega,by rw [List.take_append_of_le_length (by omega),List.take_of_length_le (by omega)]⟩
  | succ i =>
   obtain ⟨h1,h2⟩:=ih (fun row h=>he row (List.mem_cons_of_mem _ h)) i row hi
   simp only [List.flatten_cons,List.length_append,Nat.add_mul,Nat.one_mul]
   refine ⟨by omega,?_⟩
   rw [List.drop_append,List.drop_of_length_le (by omega),List.nil_append,show i*esz+esz-r.length=i*esz by omega]
   exact h2
theorem SlR.ix (s : SlR h esz R v l) {i : Nat} {a : α} (hi : l[i]? = some a) (k : IntKind) :
    ∃ id g off vs ro row,ixV h esz v (.int k i)=some (.ptr id g off,h)∧h.get id=.cells g ro vs∧id<h.n∧off+esz≤vs.length∧(vs.drop off).take esz=row∧row.length=esz∧R a row:=by
  have hlt:i<l.length:=(List.getElem?_eq_some_iff.1 hi).1
  rcases s with ⟨_,rfl⟩ | ⟨id,off,_,rfl,_⟩ | ⟨id,g,off,vs,ro,rows,rfl,e1,e2,e0,e3,e4,e5,e6⟩
  · simp at hi
  · simp at hi
  · have hr:rows[i]?=some rows[i]:=List.getElem?_eq_getElem (by omega)
    obtain ⟨h1,h2⟩:=flatten_at e5 i _ hr
    have hl:=e5 _ (List.getElem_mem (by omega:i<rows.length))
    rw [←e3,List.length_take,List.length_drop] at h1
    rw [←e3,List.drop_take,List.drop_drop,List.take_take,Nat.min_eq_left (by omega)] at h2
    refine ⟨id,g,off+i*esz,vs,ro,rows[i],?_,e1,e2,?_,h2,hl,e6 i a _ hi hr⟩
    · rw [ix_sl h e1 (Int.natCast_nonneg _) (by omega)]
      simp
    · have h3:(i+1)*esz≤l.length*esz:=Nat.mul_le_mul_right esz hlt
      rw [Nat.add_mul,Nat.one_mul] at h3
      omega
theorem SlR.of {H : Type} {P : Program} {F : Nat} {t e : TypeId} {cs : List AVal} {d : DataW H} (ht : P.underlying t = some (.slice e)) (ad : AD P h (F + 1) t cs d) {R : α → List AVal → Prop}
    (hR:∀ (row:List AVal) (x:DataW H),row.length=P.cellsOf e→AD P h F e row x→∃ a,R a row):∃ v,cs=[v]∧∃ l:List α,SlR h (P.cellsOf e) R v l∧((d=.nil∧l=[])∨∃ el rest,d=.slice el rest∧el.length=l.length):=by
  unfold AD at ad
  rw [ht] at ad
  simp only at ad
  rcases ad with ⟨rfl,rfl⟩ | ⟨id,el,rest,rows,rfl,rfl,a1,a2,a3,a4⟩
  · exact ⟨_,rfl,[],.inl ⟨rfl,rfl⟩,.inl ⟨rfl,rfl⟩⟩
  · rcases a3 with a3 | ⟨rfl,a3⟩
    · have pick : ∀ (m : Nat), m ≤ rows.length → ∃ l : List α, l.length = m ∧ ∀ (i : Nat) (a : α) (row : List AVal), l[i]? = some a → rows[i]? = some row → R a row := by
        intro m
        induction m with
        | zero=>exact fun _=>⟨[],rfl,by simp⟩
        | succ m ih =>
          intro hm
          obtain ⟨l,h1,h2⟩:=ih (by omega)
          have hx:el[m]?=some el[m]:=List.getElem?_eq_getElem (by omega)
          have hrow:rows[m]?=some rows[m]:=List.getElem?_eq_getElem (by omega)
          obtain ⟨q1,q2⟩:=a4 m _ _ hrow hx
          obtain ⟨a,ha⟩:=hR _ _ q1 q2
          refine ⟨l++[a],by simp [h1],fun i b row hi hr=>?_⟩
          by_cases hlt:i<l.length
          · rw [List.getElem?_append_left hlt] at hi
            exact h2 i b row hi hr
          · rw [List.getElem?_append_right (by omega)] at hi
            have h0:i-l.length=0:=by
              rcases Nat.eq_zero_or_pos (i-l.length) with h | h
              · exact h
              · rw [List.getElem?_eq_none (by simp;omega)] at hi;cases hi
            rw [h0] at hi
            simp only [List.getElem?_cons_zero,Option.some.injEq] at hi
            subst hi
            have him:i=m:=by omega
            subst him
            rw [hrow] at hr
            simp only [Option.some.injEq] at hr
            subst hr
            exact ha
      obtain ⟨l,h1,h2⟩:=pick rows.length (Nat.le_refl _)
      have hrl:∀ row,row∈rows→row.length=P.cellsOf e:=fun row hrow=>by
        obtain ⟨i,hi⟩:=List.getElem?_of_mem hrow
        have hil:=(List.getElem?_eq_some_iff.1 hi).1
        exact (a4 i row _ hi (List.getElem?_eq_getElem (by omega))).1
      have hfl:rows.flatten.length=rows.length*P.cellsOf e:=by
        clear a3 a4 h2 pick h1 a2
        induction rows with
        | nil=>simp
        | cons r rs ih =>
          have:=hrl r List.mem_cons_self
          have h3:=ih (fun row h=>hrl row (List.mem_cons_of_mem _ h))
          simp only [List.flatten_cons,List.length_append,List.length_cons,Nat.add_mul,Nat.one_mul];omega
      refine ⟨_,rfl,l,.inr (.inr ⟨id,0,0,rows.flatten,true,rows,by rw [h1,a2],a3,a1,?_,?_,h1.symm,hrl,h2⟩),.inr ⟨_,_,rfl,by rw [h1,a2]⟩⟩
      · rw [hfl,h1];omega
      · rw [List.drop_zero,List.take_of_length_le (by rw [hfl,h1];exact Nat.le_refl _)]
    · exact ⟨_,rfl,[],.inr (.inl ⟨id,0,rfl,rfl,a1,a3⟩),.inr ⟨_,_,rfl,rfl⟩⟩
end Go.AM
namespace Go.AM
set_option linter.unusedVariables false
set_option linter.unusedSimpArgs false
def CallX (P:AProg) (f:FuncId) (args:List AVal) (h:AHeap) (Q:ARes→AHeap→Prop):Prop :=
 ∃ N r h',(∀ n,N≤n→(run P n).call f args h=some (r,h'))∧Q r h'
theorem CallX.mono {P:AProg} {f:FuncId} {args:List AVal} {h:AHeap} {Q Q':ARes→AHeap→Prop} (c:CallX P f args h Q) (i:∀ r h',Q r h'→Q' r h'):CallX P f args h Q':=by
 obtain ⟨N,v,h',e,q⟩:=c;exact ⟨N,v,h',e,i _ _ q⟩
theorem CallP.x {P:AProg} {f:FuncId} {args:List AVal} {h:AHeap} {Q:AVal→AHeap→Prop} (c:CallP P f args h Q):CallX P f args h fun r h'=>∃ v,r=.ret v∧Q v h':=by
 obtain ⟨N,v,h',e,q⟩:=c;exact ⟨N,.ret v,h',e,v,rfl,q⟩
theorem CallX.p {P:AProg} {f:FuncId} {args:List AVal} {h:AHeap} {Q:AVal→AHeap→Prop} (c:CallX P f args h fun r h'=>∃ v,r=.ret v∧Q v h'):CallP P f args h Q:=by
 obtain ⟨N,r,h',e,v,rfl,q⟩:=c;exact ⟨N,v,h',e,q⟩
def wxFn (P:AProg) (f:AVal) (args:List AVal) (h:AHeap) (k:ARes→AHeap→Prop):Prop:=match f with
 | .fn (.func f) first captured=>CallX P f (first++args++captured) h k
 | _=>False
def resK (K:AVal→AHeap→Prop) (X:AVal→AHeap→Prop):ARes→AHeap→Prop
 | .ret v,h=>K v h
 | .panic v,h=>X v h
def panK (X:AVal→Prop):AVal→Prop
 | .iface t v=>X (.iface t v)
 | _=>False
def wxIs (P:AProg):List AInstr→Post→Env→AHeap→Prop
  | [],Q,e,h=>Q .normal e h
  | i :: is, Q, e, h => wpG (wanted e i.guard)
      (match i.op with
        | .op o=>wpOp (aop e h o) fun v h'=>wxIs P is Q (put e i.dst v) h'
        | .call f args=>wxFn P (opd e f) (args.map (opd e)) h (resK (fun v h'=>wxIs P is Q (put e i.dst v) h') fun v h'=>Q (.panic v) e h')
        | .panic x=>panK (fun v=>Q (.panic v) e h) (opd e x))
      (wxIs P is Q (put e i.dst (.tup [])) h)
def wxTr (P:AProg):List DInstr→(List TS→Env→AHeap→Prop)→(List TS→AVal→AHeap→Prop)→Env→AHeap→Prop
  | [],Q,X,e,h=>Q [] e h
  | d :: ds, Q, X, e, h => wpG (wanted e d.i.guard)
      (match d.i.op with
        | .op o=>wpOp (aop e h o) fun v h'=>wxTr P ds (fun ts=>Q (⟨e,h,true,v⟩::ts)) (fun ts=>X (⟨e,h,true,v⟩::ts)) (put e d.i.dst v) (match d.k with | .act _=>h' | _=>h)
        | .call f args=>match d.k with
          | .act last=>wxFn P (opd e f) (args.map (opd e)) h (resK (fun v h'=>wxTr P ds (fun ts=>Q (⟨e,h,true,v⟩::ts)) (fun ts=>X (⟨e,h,true,v⟩::ts)) (put e d.i.dst v) h') fun v h'=>last=true∧X [⟨e,h,true,v⟩] v h')
          | _=>False
        | .panic _=>False)
      (wxTr P ds (fun ts=>Q (⟨e,h,false,.tup []⟩::ts)) (fun ts=>X (⟨e,h,false,.tup []⟩::ts)) (put e d.i.dst (.tup [])) h)
def wx (P:AProg):ACode→Post→Env→AHeap→Prop
 | .skip,Q,e,h=>Q .normal e h
 | .region is,Q,e,h=>wxIs P is Q e h
 | .draw is,Q,e,h=>wxTr P is (fun ts e' h'=>readsOk ts h' is ts=true∧Q .normal e' h') (fun ts v h'=>readsOk ts h' is ts=true∧Q (.panic v) (wiped e is) h') e h
 | .seq a b,Q,e,h=>wx P a (seqQ (wx P b Q) Q) e h
 | .cond c a b,Q,e,h=>wpC (opd e c) (wx P a Q e h) (wx P b Q e h)
 | .block id b,Q,e,h=>wx P b (blkQ id Q) e h
 | .loop b,Q,e,h=>∃ (I:Nat→Env→AHeap→Prop) (k:Nat),I k e h∧∀ k e h,I k e h→wx P b (loopQ I k Q) e h
 | .exit id,Q,e,h=>Q (.exit id) e h
 | .ret,Q,e,h=>Q .ret e h
 | .range ..,_,_,_=>False
end Go.AM
namespace Go.AM
set_option linter.unusedVariables false
variable {P:AProg}
def opX (P:AProg) (o:Option (AVal×AHeap)) (d:Option Nat) (is:List AInstr) (Q:Post) (e:Env):Prop:=wpOp o fun v h'=>wxIs P is Q (put e d v) h'
def gX (P:AProg) (v:AVal) (b:Bool) (d:Option Nat) (i:AIOp) (is:List AInstr) (Q:Post) (e:Env) (h:AHeap):Prop :=
 wpG (match v with | .bool c=>some (c==b) | .tup _=>some false | _=>none) (wxIs P (⟨d,i,none⟩::is) Q e h) (wxIs P is Q (put e d (.tup [])) h)
end Go.AM
namespace Go.AM
set_option linter.unusedVariables false
variable {P:AProg}
def gO (c:Bool) (o:Option (AVal×AHeap)) (h:AHeap):Option (AVal×AHeap):=bif c then o else some (.tup [],h)
def gv (c:Bool) (v:AVal):AVal:=bif c then v else .tup []
theorem gI_t (c:Bool) (d:Option Nat) (o:AOp) (is:List AInstr) (Q:Env→AHeap→Prop) (e:Env) (h:AHeap):gI P (.bool c) true d (.op o) is Q e h=opI P (gO c (aop e h o) h) d is Q e:=by cases c<;>rfl
theorem gI_f (c:Bool) (d:Option Nat) (o:AOp) (is:List AInstr) (Q:Env→AHeap→Prop) (e:Env) (h:AHeap):gI P (.bool c) false d (.op o) is Q e h=opI P (gO (!c) (aop e h o) h) d is Q e:=by cases c<;>rfl
theorem gI_gt (c x:Bool) (d:Option Nat) (o:AOp) (is:List AInstr) (Q:Env→AHeap→Prop) (e:Env) (h:AHeap):gI P (gv c (.bool x)) true d (.op o) is Q e h=opI P (gO (c&&x) (aop e h o) h) d is Q e:=by cases c<;>cases x<;>rfl
theorem gI_gf (c x:Bool) (d:Option Nat) (o:AOp) (is:List AInstr) (Q:Env→AHeap→Prop) (e:Env) (h:AHeap):gI P (gv c (.bool x)) false d (.op o) is Q e h=opI P (gO (c&&!x) (aop e h o) h) d is Q e:=by cases c<;>cases x<;>rfl
theorem gX_t (c:Bool) (d:Option Nat) (o:AOp) (is:List AInstr) (Q:Post) (e:Env) (h:AHeap):gX P (.bool c) true d (.op o) is Q e h=opX P (gO c (aop e h o) h) d is Q e:=by cases c<;>rfl
theorem gX_f (c:Bool) (d:Option Nat) (o:AOp) (is:List AInstr) (Q:Post) (e:Env) (h:AHeap):gX P (.bool c) false d (.op o) is Q e h=opX P (gO (!c) (aop e h o) h) d is Q e:=by cases c<;>rfl
theorem gX_gt (c x:Bool) (d:Option Nat) (o:AOp) (is:List AInstr) (Q:Post) (e:Env) (h:AHeap):gX P (gv c (.bool x)) true d (.op o) is Q e h=opX P (gO (c&&x) (aop e h o) h) d is Q e:=by cases c<;>cases x<;>rfl
theorem gX_gf (c x:Bool) (d:Option Nat) (o:AOp) (is:List AInstr) (Q:Post) (e:Env) (h:AHeap):gX P (gv c (.bool x)) false d (.op o) is Q e h=opX P (gO (c&&!x) (aop e h o) h) d is Q e:=by cases c<;>cases x<;>rfl
theorem gO_true (o:Option (AVal×AHeap)) (h:AHeap):gO true o h=o:=rfl
theorem gO_false (o:Option (AVal×AHeap)) (h:AHeap):gO false o h=some (.tup [],h):=rfl
theorem gv_true (v:AVal):gv true v=v:=rfl
theorem gv_false (v:AVal):gv false v=.tup []:=rfl
theorem gO_some (c:Bool) (v:AVal) (h:AHeap):gO c (some (v,h)) h=some (gv c v,h):=by cases c<;>rfl
theorem gv_gv (c:Bool) (v:AVal):gv c (gv c v)=gv c v:=by cases c<;>rfl
theorem gv_gv1 (c x:Bool) (v:AVal):gv (c&&x) (gv c v)=gv (c&&x) v:=by cases c<;>cases x<;>rfl
theorem gv_gv2 (c x y:Bool) (v:AVal):gv (c&&x&&y) (gv c v)=gv (c&&x&&y) v:=by cases c<;>cases x<;>cases y<;>rfl
variable (h:AHeap)
theorem gO_binl (c:Bool) (op:BinOp) (x y:AVal):gO c (binV h op (gv c x) y) h=gO c (binV h op x y) h:=by cases c<;>rfl
theorem gO_binr (c:Bool) (op:BinOp) (x y:AVal):gO c (binV h op x (gv c y)) h=gO c (binV h op x y) h:=by cases c<;>rfl
theorem gO_eqll (c n:Bool) (k:EqK) (x y:AVal):gO c (eqlV h n k (gv c x) y) h=gO c (eqlV h n k x y) h:=by cases c<;>rfl
theorem gO_eqlr (c n:Bool) (k:EqK) (x y:AVal):gO c (eqlV h n k x (gv c y)) h=gO c (eqlV h n k x y) h:=by cases c<;>rfl
theorem gO_ld (c:Bool) (n:Option Nat) (x:AVal):gO c (ldV h n (gv c x)) h=gO c (ldV h n x) h:=by cases c<;>rfl
theorem gO_nil (c:Bool) (x:AVal):gO c (nilV h (gv c x)) h=gO c (nilV h x) h:=by cases c<;>rfl
theorem gO_fa (c:Bool) (n:Nat) (x:AVal):gO c (faV h n (gv c x)) h=gO c (faV h n x) h:=by cases c<;>rfl
theorem gO_len (c:Bool) (x:AVal):gO c (lenV h (gv c x)) h=gO c (lenV h x) h:=by cases c<;>rfl
theorem gO_lt (c:Bool) (x:AVal):gO c (ltV h (gv c x)) h=gO c (ltV h x) h:=by cases c<;>rfl
theorem gO_f (c:Bool) (o:Nat) (n:Option Nat) (x:AVal):gO c (fV h o n (gv c x)) h=gO c (fV h o n x) h:=by cases c<;>rfl
theorem gO_ex (c:Bool) (n:Nat) (x:AVal):gO c (exV h n (gv c x)) h=gO c (exV h n x) h:=by cases c<;>rfl
theorem gO_conv (c:Bool) (k:IntKind) (x:AVal):gO c (convV h k (gv c x)) h=gO c (convV h k x) h:=by cases c<;>rfl
theorem gO_ixl (c:Bool) (s:Nat) (x y:AVal):gO c (ixV h s (gv c x) y) h=gO c (ixV h s x y) h:=by cases c<;>rfl
theorem gO_ixr (c:Bool) (s:Nat) (x y:AVal):gO c (ixV h s x (gv c y)) h=gO c (ixV h s x y) h:=by cases c<;>rfl
theorem gO_ial (c:Bool) (s n:Nat) (x y:AVal):gO c (iaV h s n (gv c x) y) h=gO c (iaV h s n x y) h:=by cases c<;>rfl
theorem gO_iar (c:Bool) (s n:Nat) (x y:AVal):gO c (iaV h s n x (gv c y)) h=gO c (iaV h s n x y) h:=by cases c<;>rfl
theorem gO_mml (c b:Bool) (x y:AVal):gO c (mmV h b (gv c x) y) h=gO c (mmV h b x y) h:=by cases c<;>rfl
theorem gO_mmr (c b:Bool) (x y:AVal):gO c (mmV h b x (gv c y)) h=gO c (mmV h b x y) h:=by cases c<;>rfl
theorem gO_not (c:Bool) (x:AVal):gO c ((gv c x).lit.bind fun a=>(ofSem (Op.unary .not a)).map fun v=>(v,h)) h=gO c (x.lit.bind fun a=>(ofSem (Op.unary .not a)).map fun v=>(v,h)) h:=by cases c<;>rfl
theorem gO_pk (c:Bool) (x y z:AVal):gO c (pickV (gv c x) y z h) h=gO c (pickV x y z h) h:=by cases c<;>rfl
theorem gO_bin1l (c w:Bool) (op:BinOp) (x y:AVal):gO (c&&w) (binV h op (gv c x) y) h=gO (c&&w) (binV h op x y) h:=by cases c<;>cases w<;>rfl
theorem gO_bin1r (c w:Bool) (op:BinOp) (x y:AVal):gO (c&&w) (binV h op x (gv c y)) h=gO (c&&w) (binV h op x y) h:=by cases c<;>cases w<;>rfl
theorem gO_ld1 (c w:Bool) (n:Option Nat) (x:AVal):gO (c&&w) (ldV h n (gv c x)) h=gO (c&&w) (ldV h n x) h:=by cases c<;>cases w<;>rfl
theorem gO_fa1 (c w:Bool) (n:Nat) (x:AVal):gO (c&&w) (faV h n (gv c x)) h=gO (c&&w) (faV h n x) h:=by cases c<;>cases w<;>rfl
theorem gO_nil1 (c w:Bool) (x:AVal):gO (c&&w) (nilV h (gv c x)) h=gO (c&&w) (nilV h x) h:=by cases c<;>cases w<;>rfl
theorem gO_ix1l (c w:Bool) (s:Nat) (x y:AVal):gO (c&&w) (ixV h s (gv c x) y) h=gO (c&&w) (ixV h s x y) h:=by cases c<;>cases w<;>rfl
theorem pk_bb (x y z:Bool):pickV (.bool x) (.bool y) (.bool z) h=some (.bool (bif x then y else z),h):=by cases x<;>rfl
theorem pk_gb (x y z:Bool):pickV (.bool x) (gv x (.bool y)) (.bool z) h=some (.bool (bif x then y else z),h):=by cases x<;>rfl
theorem pk_bg (x y z:Bool):pickV (.bool x) (.bool y) (gv (!x) (.bool z)) h=some (.bool (bif x then y else z),h):=by cases x<;>rfl
theorem pk_gg (x y z:Bool):pickV (.bool x) (gv x (.bool y)) (gv (!x) (.bool z)) h=some (.bool (bif x then y else z),h):=by cases x<;>rfl
theorem gO_pgb (c x y z:Bool):gO c (pickV (.bool x) (gv (c&&x) (.bool y)) (.bool z) h) h=gO c (some (.bool (bif x then y else z),h)) h:=by cases c<;>cases x<;>rfl
theorem gO_pbg (c x y z:Bool):gO c (pickV (.bool x) (.bool y) (gv (c&&!x) (.bool z)) h) h=gO c (some (.bool (bif x then y else z),h)) h:=by cases c<;>cases x<;>rfl
theorem cond_ff (x y:Bool):(bif x then y else false)=(x&&y):=by cases x<;>rfl
theorem cond_tt (x z:Bool):(bif x then true else z)=(x||z):=by cases x<;>rfl
theorem RGB:type_of% (And.intro (And.intro (And.intro (And.intro (And.intro @gI_t (And.intro @gI_f @gI_gt)) (And.intro @gI_gf (And.intro @gX_t @gX_f))) (And.intro (And.intro @gX_gt (And.intro @gX_gf @gO_true)) (And.intro @gO_false (And.intro @gv_true @gv_false)))) (And.intro (And.intro (And.intro @gO_some (And.intro @gv_gv @gv_gv1)) (And.intro @gv_gv2 (And.intro @gO_binl @gO_binr))) (And.intro (And.intro @gO_eqll (And.intro @gO_eqlr @gO_ld)) (And.intro (And.intro @gO_nil @gO_fa) (And.intro @gO_len @gO_lt))))) (And.intro (And.intro (And.intro (And.intro @gO_f (And.intro @gO_ex @gO_conv)) (And.intro @gO_ixl (And.intro @gO_ixr @gO_ial))) (And.intro (And.intro @gO_iar (And.intro @gO_mml @gO_mmr)) (And.intro @gO_not (And.intro @gO_pk @gO_bin1l)))) (And.intro (And.intro (And.intro @gO_bin1r (And.intro @gO_ld1 @gO_fa1)) (And.intro @gO_nil1 (And.intro @gO_ix1l @pk_bb))) (And.intro (And.intro @pk_gb (And.intro @pk_bg @pk_gg)) (And.intro (And.intro @gO_pgb @gO_pbg) (And.intro @cond_ff @cond_tt)))))):=(And.intro (And.intro (And.intro (And.intro (And.intro @gI_t (And.intro @gI_f @gI_gt)) (And.intro @gI_gf (And.intro @gX_t @gX_f))) (And.intro (And.intro @gX_gt (And.intro @gX_gf @gO_true)) (And.intro @gO_false (And.intro @gv_true @gv_false)))) (And.intro (And.intro (And.intro @gO_some (And.intro @gv_gv @gv_gv1)) (And.intro @gv_gv2 (And.intro @gO_binl @gO_binr))) (And.intro (And.intro @gO_eqll (And.intro @gO_eqlr @gO_ld)) (And.intro (And.intro @gO_nil @gO_fa) (And.intro @gO_len @gO_lt))))) (And.intro (And.intro (And.intro (And.intro @gO_f (And.intro @gO_ex @gO_conv)) (And.intro @gO_ixl (And.intro @gO_ixr @gO_ial))) (And.intro (And.intro @gO_iar (And.intro @gO_mml @gO_mmr)) (And.intro @gO_not (And.intro @gO_pk @gO_bin1l)))) (And.intro (And.intro (And.intro @gO_bin1r (And.intro @gO_ld1 @gO_fa1)) (And.intro @gO_nil1 (And.intro @gO_ix1l @pk_bb))) (And.intro (And.intro @pk_gb (And.intro @pk_bg @pk_gg)) (And.intro (And.intro @gO_pgb @gO_pbg) (And.intro @cond_ff @cond_tt))))))
end Go.AM
namespace Go.AM
set_option linter.unusedVariables false
set_option linter.unusedSimpArgs false
abbrev Row (m:Nat):={row:List AVal // row.length=m∧row.all (·.cell)=true}
def RowsOf (h:AHeap) (m:Nat) {α:Type} (R:α→List AVal→Prop) (v:AVal) (l:List α) (F:List Nat):Prop :=
 ∃ rows:List (Row m),SlOf h m (fun r:Row m=>r.1) v rows F∧rows.length=l.length∧∀ (i:Nat) (a:α) (row:Row m),l[i]?=some a→rows[i]?=some row→R a row.1
variable {α:Type} {m:Nat} {R:α→List AVal→Prop} {h h':AHeap} {v:AVal} {l:List α} {F:List Nat}
theorem RowsOf.nil:RowsOf h m R .nils ([]:List α) []:=⟨[],SlOf.nil,rfl,by simp⟩
theorem RowsOf.frame (s:RowsOf h m R v l F) (hn:h.n≤h'.n) (k:∀ j,j∈F→h'.get j=h.get j):RowsOf h' m R v l F:=by
 obtain ⟨rows,a,b,c⟩:=s;exact ⟨rows,a.frame hn k,b,c⟩
theorem RowsOf.monoR (s:RowsOf h m R v l F) {R':α→List AVal→Prop} (k:∀ a row,R a row→R' a row):RowsOf h m R' v l F:=by
 obtain ⟨rows,a,b,c⟩:=s;exact ⟨rows,a,b,fun i a row x y=>k _ _ (c i a row x y)⟩
theorem RowsOf.lt (s:RowsOf h m R v l F):∀ j,j∈F→j<h.n:=by
 obtain ⟨rows,a,b,c⟩:=s;exact a.lt
theorem RowsOf.len (s:RowsOf h m R v l F) (h':AHeap):lenV h' v=some (.int .i64 l.length,h'):=by
 obtain ⟨rows,a,b,c⟩:=s;rw [←b];exact a.len h'
theorem RowsOf.beq (s:RowsOf h m R v l F):v.beq v=true:=by
 obtain ⟨rows,a,b,c⟩:=s;exact a.beq
theorem RowsOf.cells (s:RowsOf h m R v l F):v.cells=[v]∧v.cell=true:=by
 obtain ⟨rows,a,b,c⟩:=s;exact a.rd.cells
theorem RowsOf.set (s:RowsOf h m R v l F) {i:Nat} (hi:i ∉ F) (o:AObj):RowsOf (h.set i o) m R v l F:=by
 obtain ⟨rows,a,b,c⟩:=s;exact ⟨rows,a.set hi o,b,c⟩
theorem RowsOf.push (s:RowsOf h m R v l F) (o:AObj):RowsOf (h.push o) m R v l F:=by
 obtain ⟨rows,a,b,c⟩:=s;exact ⟨rows,a.push o,b,c⟩
theorem RowsOf.app1 (s : RowsOf h m R v l F) {bytes : Nat} (hb : (l.length + 1) * bytes ≤ 1099511627776) {a : α} {row : List AVal} (hl : row.length = m) (hc : row.all (·.cell) = true) (hr : R a row) {k : AVal → AHeap → Prop}
    (w:∀ v' h' F',RowsOf h' m R v' (l++[a]) F'→HFrame h h' F F'→k v' h'):wpOp ((h.push (.cells 0 false row)).app m bytes v (.sl h.n 0 0 1 m)) k:=by
  obtain ⟨rows,s1,s2,s3⟩:=s
  refine SlOf.app1 (enc:=fun r:Row m=>r.1) s1 (fun a=>a.2.1) (fun a=>a.2.2) (by rw [s2];exact hb) ⟨row,hl,hc⟩ fun v' h' F' s' f'=>w v' h' F' ⟨_,s',by simp [s2],fun i b r' hi hj=>?_⟩ f'
  by_cases hlt:i<l.length
  · rw [List.getElem?_append_left hlt] at hi
    rw [List.getElem?_append_left (by omega)] at hj
    exact s3 i b r' hi hj
  · rw [List.getElem?_append_right (by omega)] at hi
    rw [List.getElem?_append_right (by omega)] at hj
    have h0:i-l.length=0:=by
      rcases Nat.eq_zero_or_pos (i-l.length) with h | h
      · exact h
      · rw [List.getElem?_eq_none (by simp;omega)] at hi;cases hi
    rw [h0] at hi
    rw [s2,h0] at hj
    simp only [List.getElem?_cons_zero,Option.some.injEq] at hi hj
    subst hi
    rw [←hj]
    exact hr
theorem rows_flat {m:Nat} (rows:List (Row m)):rows.flatMap (fun r:Row m=>r.1)=(rows.map fun r=>r.1).flatten:=by
 induction rows with
 | nil=>rfl
 | cons r rs ih=>simp only [List.flatMap_cons,List.map_cons,List.flatten_cons,ih]
def SlRow (h:AHeap) (m:Nat) {α:Type} (R:α→List AVal→Prop) (v:AVal) (l:List α):Prop :=
 ∃ rows:List (Row m),SlRd h m (fun r:Row m=>r.1) v rows∧rows.length=l.length∧∀ (i:Nat) (a:α) (row:Row m),l[i]?=some a→rows[i]?=some row→R a row.1
theorem RowsOf.row (s:RowsOf h m R v l F):SlRow h m R v l:=by
 obtain ⟨rows,a,b,c⟩:=s;exact ⟨rows,a.rd,b,c⟩
theorem SlRow.mono (s:SlRow h m R v l) {R':α→List AVal→Prop} (k:∀ a row,R a row→R' a row) (hn:h.n≤h'.n) (q:∀ j,j<h.n→h'.get j=h.get j):SlRow h' m R' v l:=by
 obtain ⟨rows,a,b,c⟩:=s;exact ⟨rows,a.mono hn fun j hj _=>q j hj,b,fun i a row x y=>k _ _ (c i a row x y)⟩
theorem SlRow.len (s:SlRow h m R v l) (h':AHeap):lenV h' v=some (.int .i64 l.length,h'):=by
 obtain ⟨rows,a,b,c⟩:=s;rw [←b];exact a.len h'
theorem SlRow.cells (s:SlRow h m R v l):v.cells=[v]∧v.cell=true:=by
 obtain ⟨rows,a,b,c⟩:=s;exact a.cells
end Go.AM
namespace Go.AM
open Go.RowKit Go.ChangeShapes Go.WideShapes
set_option linter.unusedVariables false
structure Bulk (H:Type) (bw:DataW H→Nat) (all:List (DataW H)→Nat):Prop where
 nil:all []=0
 cons:∀ d r,all (d::r)=bw d+all r
 slice:∀ el rest,bw (.slice el rest)=all el+all rest+1
 agg:∀ ps,bw (.agg ps)=all ps+1
 int:∀ k n,bw (.lit (.int k n))=1
 bool:∀ b,bw (.lit (.bool b))=1
 nils:bw .nil=1
end Go.AM
namespace Go.AM
open Go.ChangeShapes Go.WideShapes Go.ChangeAt Go.WideElems Go.RowKit
end Go.AM
namespace Go.AM
open Go.ChangeShapes Go.WideShapes Go.ChangeAt Go.WideElems Go.RowKit
set_option linter.unusedVariables false
theorem SlIn.map {α β:Type} {enc:β→List AVal} {g:α→β} {h:AHeap} {m:Nat} {v:AVal} {l:List α} (s:SlIn h m (fun a=>enc (g a)) v l):SlIn h m enc v (l.map g):=by
 rcases s with (⟨rfl,rfl⟩ | ⟨id,gn,off,vs,ro,rfl,e1,e2,e3,e4⟩) | ⟨rfl,id,off,rfl,c,e⟩
 ·exact .inl (.inl ⟨rfl,rfl⟩)
 ·exact .inl (.inr ⟨id,gn,off,vs,ro,by rw [List.length_map],e1,e2,by rw [List.length_map];exact e3,by rw [List.length_map,e4,List.flatMap_map]⟩)
 ·exact .inr ⟨rfl,id,off,rfl,c,e⟩
end Go.AM
namespace Go
theorem AM.dz (p:Prop) (h:p:=by first | decide | assumption | omega | (simp -implicitDefEqProofs only [AM.qN];first | done | omega) | fail):p:=h
end Go