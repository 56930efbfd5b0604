/-
  Regions whose order is open; a run of the machine is a run of the model.
-/
import Derived.Orders
import Derived.RangeFuncKeeps
import Derived.RangeFuncRecord
import Derived.Recover
import Derived.RowKit3
import Derived.Test.YtnbnpjhlflcjeaaFX1
namespace Go.AM
set_option linter.unusedVariables false
set_option linter.unusedSimpArgs false
theorem opd_congr {e1 e2:Env} {x:AOpd} (h:∀ t,t∈opdReads x→e1.val t=e2.val t):opd e1 x=opd e2 x:=by
 cases x<;>simp [opd]
 exact h _ (by simp [opdReads])
theorem optOpd_congr {e1 e2:Env} {x:Option AOpd} (h:∀ t,t∈optReads x→e1.val t=e2.val t):optOpd e1 x=optOpd e2 x:=by
 cases x with
 | none=>rfl
 | some x=>simp only [optOpd];rw [opd_congr (e2:=e2) h]
theorem map_opd_congr {e1 e2:Env} {l:List AOpd} (h:∀ t,t∈l.flatMap opdReads→e1.val t=e2.val t):l.map (opd e1)=l.map (opd e2):=by
 apply List.map_congr_left
 intro x hx
 exact opd_congr fun t ht=>h t (List.mem_flatMap.2 ⟨x,hx,ht⟩)
theorem aop_congr {e1 e2:Env} {op:AOp} (h:∀ t,t∈opReads op→e1.val t=e2.val t) (hp:AHeap):aop e1 hp op=aop e2 hp op:=by
  cases op
  case build z ps =>
    simp only [aop,opMov,opPick,opAlloc,opBox,opBuild,opBuildSlice,opLoad,opStore,opNilCheck,opBin,opEql,opUn,opConv,opB2s,opMkIface,opMkFn,opMkMap,opMkSlice,opSlice,opFieldAddr,opField,opIdxS,opIdxA,opIndex,opIndexStr,opLookup,opMapUpd,opAssertT,opExtract,opLenS,opLenT,opLenM,opMin,opMax,opAppend,opCopy,opDelete]
    have:ps.map (fun x=>match x with | (o,s,x)=>(o,s,opd e1 x))=ps.map (fun x=>match x with | (o,s,x)=>(o,s,opd e2 x)):=by
      apply List.map_congr_left
      intro x hx
      obtain ⟨o,s,x⟩:=x
      simp only
      rw [opd_congr (e2:=e2) fun t ht=>h t (by simp only [opReads];exact List.mem_flatMap.2 ⟨_,hx,ht⟩)]
    rw [this]
  case buildSlice s n z ps =>
    simp only [aop,opMov,opPick,opAlloc,opBox,opBuild,opBuildSlice,opLoad,opStore,opNilCheck,opBin,opEql,opUn,opConv,opB2s,opMkIface,opMkFn,opMkMap,opMkSlice,opSlice,opFieldAddr,opField,opIdxS,opIdxA,opIndex,opIndexStr,opLookup,opMapUpd,opAssertT,opExtract,opLenS,opLenT,opLenM,opMin,opMax,opAppend,opCopy,opDelete]
    have:ps.map (fun x=>match x with | (i,x)=>(i*s,s,opd e1 x))=ps.map (fun x=>match x with | (i,x)=>(i*s,s,opd e2 x)):=by
      apply List.map_congr_left
      intro x hx
      obtain ⟨i,x⟩:=x
      simp only
      rw [opd_congr (e2:=e2) fun t ht=>h t (by simp only [opReads];exact List.mem_flatMap.2 ⟨_,hx,ht⟩)]
    rw [this]
  case mkFn f a b =>
    simp only [aop,opMov,opPick,opAlloc,opBox,opBuild,opBuildSlice,opLoad,opStore,opNilCheck,opBin,opEql,opUn,opConv,opB2s,opMkIface,opMkFn,opMkMap,opMkSlice,opSlice,opFieldAddr,opField,opIdxS,opIdxA,opIndex,opIndexStr,opLookup,opMapUpd,opAssertT,opExtract,opLenS,opLenT,opLenM,opMin,opMax,opAppend,opCopy,opDelete]
    rw [map_opd_congr (e2:=e2) (l:=a) fun t ht=>h t (by simp only [opReads];exact List.mem_append_left _ ht),map_opd_congr (e2:=e2) (l:=b) fun t ht=>h t (by simp only [opReads];exact List.mem_append_right _ ht)]
  case slice s x lo hi =>
    simp only [aop,opMov,opPick,opAlloc,opBox,opBuild,opBuildSlice,opLoad,opStore,opNilCheck,opBin,opEql,opUn,opConv,opB2s,opMkIface,opMkFn,opMkMap,opMkSlice,opSlice,opFieldAddr,opField,opIdxS,opIdxA,opIndex,opIndexStr,opLookup,opMapUpd,opAssertT,opExtract,opLenS,opLenT,opLenM,opMin,opMax,opAppend,opCopy,opDelete]
    rw [opd_congr (e2:=e2) (x:=x) fun t ht=>h t (by simp only [opReads];simp [ht]),optOpd_congr (e2:=e2) (x:=lo) fun t ht=>h t (by simp only [opReads];simp [ht]),optOpd_congr (e2:=e2) (x:=hi) fun t ht=>h t (by simp only [opReads];simp [ht])]
  case pick a b c =>
    simp only [aop,opMov,opPick,opAlloc,opBox,opBuild,opBuildSlice,opLoad,opStore,opNilCheck,opBin,opEql,opUn,opConv,opB2s,opMkIface,opMkFn,opMkMap,opMkSlice,opSlice,opFieldAddr,opField,opIdxS,opIdxA,opIndex,opIndexStr,opLookup,opMapUpd,opAssertT,opExtract,opLenS,opLenT,opLenM,opMin,opMax,opAppend,opCopy,opDelete]
    rw [opd_congr (e2:=e2) (x:=a) fun t ht=>h t (by simp only [opReads];simp [ht]),opd_congr (e2:=e2) (x:=b) fun t ht=>h t (by simp only [opReads];simp [ht]),opd_congr (e2:=e2) (x:=c) fun t ht=>h t (by simp only [opReads];simp [ht])]
  case max3 a b c =>
    simp only [aop,opMax3]
    rw [opd_congr (e2:=e2) (x:=a) fun t ht=>h t (by simp only [opReads];simp [ht]),opd_congr (e2:=e2) (x:=b) fun t ht=>h t (by simp only [opReads];simp [ht]),opd_congr (e2:=e2) (x:=c) fun t ht=>h t (by simp only [opReads];simp [ht])]
  case mapUpd k a b c =>
    simp only [aop,opMov,opPick,opAlloc,opBox,opBuild,opBuildSlice,opLoad,opStore,opNilCheck,opBin,opEql,opUn,opConv,opB2s,opMkIface,opMkFn,opMkMap,opMkSlice,opSlice,opFieldAddr,opField,opIdxS,opIdxA,opIndex,opIndexStr,opLookup,opMapUpd,opAssertT,opExtract,opLenS,opLenT,opLenM,opMin,opMax,opAppend,opCopy,opDelete]
    rw [opd_congr (e2:=e2) (x:=a) fun t ht=>h t (by simp only [opReads];simp [ht]),opd_congr (e2:=e2) (x:=b) fun t ht=>h t (by simp only [opReads];simp [ht]),opd_congr (e2:=e2) (x:=c) fun t ht=>h t (by simp only [opReads];simp [ht])]
  case alloc z=>rfl
  case mkMap=>rfl
  all_goals
    simp only [aop,opMov,opPick,opAlloc,opBox,opBuild,opBuildSlice,opLoad,opStore,opNilCheck,opBin,opEql,opUn,opConv,opB2s,opMkIface,opMkFn,opMkMap,opMkSlice,opSlice,opFieldAddr,opField,opIdxS,opIdxA,opIndex,opIndexStr,opLookup,opMapUpd,opAssertT,opExtract,opLenS,opLenT,opLenM,opMin,opMax,opAppend,opCopy,opDelete,opFbin,opI2f,opF2i,opF2b,opB2f]
    first
    | rw [opd_congr (e2:=e2) fun t ht=>h t (by simp only [opReads];exact ht)]
    | (rename_i a b
       rw [opd_congr (e2:=e2) (x:=a) fun t ht=>h t (by simp only [opReads];exact List.mem_append_left _ ht),opd_congr (e2:=e2) (x:=b) fun t ht=>h t (by simp only [opReads];exact List.mem_append_right _ ht)])
theorem aop_pure {e:Env} {op:AOp} (hc:opClass op=.pure) {h h':AHeap} {v:AVal} (he:aop e h op=some (v,h')) (h2:AHeap):h'=h∧aop e h2 op=some (v,h2):=by
  cases op<;>simp only [opClass] at hc<;>first | cases hc | skip
  case un op x =>
    simp only [aop,opMov,opPick,opAlloc,opBox,opBuild,opBuildSlice,opLoad,opStore,opNilCheck,opBin,opEql,opUn,opConv,opB2s,opMkIface,opMkFn,opMkMap,opMkSlice,opSlice,opFieldAddr,opField,opIdxS,opIdxA,opIndex,opIndexStr,opLookup,opMapUpd,opAssertT,opExtract,opLenS,opLenT,opLenM,opMin,opMax,opAppend,opCopy,opDelete,Option.bind_eq_some_iff,Option.map_eq_some_iff,Prod.mk.injEq] at he ⊢
    obtain ⟨y,h0,x,h1,rfl,rfl⟩:=he
    exact ⟨rfl,y,h0,x,h1,rfl,trivial⟩
  case max3 x y z =>
    simp only [aop,opMax3] at he ⊢
    split at he
    · split at he
      · simp only [Option.some.injEq,Prod.mk.injEq] at he
        obtain ⟨rfl,rfl⟩:=he
        rename_i hk
        rw [if_pos hk]
        exact ⟨rfl,rfl⟩
      · simp at he
    · simp at he
  all_goals simp only [aop,opMov,opPick,opAlloc,opBox,opBuild,opBuildSlice,opLoad,opStore,opNilCheck,opBin,opEql,opUn,opConv,opB2s,opMkIface,opMkFn,opMkMap,opMkSlice,opSlice,opFieldAddr,opField,opIdxS,opIdxA,opIndex,opIndexStr,opLookup,opMapUpd,opAssertT,opExtract,opLenS,opLenT,opLenM,opMin,opMax,opAppend,opCopy,opDelete] at he ⊢
  all_goals
    first
    | (simp only [Option.some.injEq,Prod.mk.injEq] at he;obtain ⟨rfl,rfl⟩:=he;exact ⟨rfl,rfl⟩)
    | (simp only [Option.map_eq_some_iff,Prod.mk.injEq] at he;obtain ⟨x,h1,rfl,rfl⟩:=he;rw [h1];exact ⟨rfl,rfl⟩)
    | (simp only [Option.bind_eq_some_iff,Option.map_eq_some_iff,Prod.mk.injEq] at he;obtain ⟨y,h0,x,h1,rfl,rfl⟩:=he;rw [h0];simp only [Option.bind_some];rw [h1];exact ⟨rfl,rfl⟩)
    | (split at he <;>
        first
        | (simp at he;done)
        | (simp only [Option.some.injEq,Prod.mk.injEq] at he;obtain ⟨rfl,rfl⟩:=he;exact ⟨rfl,rfl⟩)
        | (simp only [Option.map_eq_some_iff,Prod.mk.injEq] at he;obtain ⟨x,h1,rfl,rfl⟩:=he;rw [h1];exact ⟨rfl,rfl⟩)
        | (split at he <;>
            first
            | (simp at he;done)
            | (simp only [Option.some.injEq,Prod.mk.injEq] at he;obtain ⟨rfl,rfl⟩:=he;simp_all;done)
            | (simp only [Option.map_eq_some_iff,Prod.mk.injEq] at he;obtain ⟨x,h1,rfl,rfl⟩:=he;simp_all;done)
            | (split at he<;>first | (simp at he;done) | (simp only [Option.some.injEq,Prod.mk.injEq] at he;obtain ⟨rfl,rfl⟩:=he;simp_all;done))))
theorem aop_read {e:Env} {op:AOp} (hc:opClass op=.read) {h h':AHeap} {v:AVal} (he:aop e h op=some (v,h')):h'=h:=by
 cases op<;>simp only [opClass] at hc<;>first | cases hc | skip
 all_goals simp only [aop,opMov,opPick,opAlloc,opBox,opBuild,opBuildSlice,opLoad,opStore,opNilCheck,opBin,opEql,opUn,opConv,opB2s,opMkIface,opMkFn,opMkMap,opMkSlice,opSlice,opFieldAddr,opField,opIdxS,opIdxA,opIndex,opIndexStr,opLookup,opMapUpd,opAssertT,opExtract,opLenS,opLenT,opLenM,opMin,opMax,opAppend,opCopy,opDelete] at he
 case load n a =>
  split at he
  ·split at he
   ·split at he
    ·simp only [Option.bind_eq_some_iff] at he
     obtain ⟨cs,_,he⟩:=he
     split at he
     ·simp only [Option.some.injEq,Prod.mk.injEq] at he;exact he.2.symm
     ·simp at he
    ·simp only [Option.map_eq_some_iff,Prod.mk.injEq] at he;obtain ⟨_,_,_,h3⟩:=he;exact h3.symm
   ·simp at he
  ·simp at he
 case b2s x =>
  split at he
  ·simp only [Option.some.injEq,Prod.mk.injEq] at he;exact he.2.symm
  ·split at he
   ·simp only [Option.some.injEq,Prod.mk.injEq] at he;exact he.2.symm
   split at he
   ·simp only [Option.bind_eq_some_iff,Option.map_eq_some_iff,Prod.mk.injEq] at he;obtain ⟨_,_,_,_,_,h3⟩:=he;exact h3.symm
   ·simp at he
  ·simp at he
 case slice s x lo hi =>
  split at he
  ·simp only [Option.bind_eq_some_iff] at he
   obtain ⟨_,_,_,_,he⟩:=he
   split at he
   ·simp only [Option.some.injEq,Prod.mk.injEq] at he;exact he.2.symm
   ·simp at he
  ·simp only [Option.bind_eq_some_iff] at he
   obtain ⟨_,_,_,_,he⟩:=he
   split at he
   ·simp only [Option.some.injEq,Prod.mk.injEq] at he;exact he.2.symm
   ·simp at he
  ·simp at he
 case idxS s x i =>
  split at he
  ·split at he
   ·simp only [Option.some.injEq,Prod.mk.injEq] at he;exact he.2.symm
   ·simp at he
  ·simp at he
 case lookup kk z ok m k =>
  split at he
  ·simp only [Option.some.injEq,Prod.mk.injEq] at he;exact he.2.symm
  ·split at he
   ·simp only [Option.bind_eq_some_iff] at he
    obtain ⟨r,_,he⟩:=he
    split at he<;>(simp only [Option.some.injEq,Prod.mk.injEq] at he;exact he.2.symm)
   ·simp at he
  ·simp at he
 case lenM x =>
  split at he
  ·simp only [Option.some.injEq,Prod.mk.injEq] at he;exact he.2.symm
  ·split at he
   ·simp only [Option.some.injEq,Prod.mk.injEq] at he;exact he.2.symm
   ·simp at he
  ·simp at he
mutual
theorem beq_eq:∀ {a b:AVal},a.beq b=true→a=b
 | .undef,b,h=>by cases b<;>simp [AVal.beq] at h;rfl
 | .bool a,b,h=>by cases b<;>simp [AVal.beq] at h;rw [h]
 | .int k a,b,h=>by cases b<;>simp [AVal.beq] at h;rw [h.1,h.2]
 | .flt k a,b,h=>by cases b<;>simp [AVal.beq] at h;rw [h.1,h.2]
 | .str a,b,h=>by
  cases b<;>simp [AVal.beq] at h
  rename_i c
  obtain ⟨a⟩:=a
  obtain ⟨c⟩:=c
  simp at h
  rw [h]
 | .nilp,b,h=>by cases b<;>simp [AVal.beq] at h;rfl
 | .ptr a c d,b,h=>by cases b<;>simp [AVal.beq] at h;rw [h.1.1,h.1.2,h.2]
 | .nils,b,h=>by cases b<;>simp [AVal.beq] at h;rfl
 | .sl a c d f g,b,h=>by cases b<;>simp [AVal.beq] at h;rw [h.1.1.1.1,h.1.1.1.2,h.1.1.2,h.1.2,h.2]
 | .nilm,b,h=>by cases b<;>simp [AVal.beq] at h;rfl
 | .map a,b,h=>by cases b<;>simp [AVal.beq] at h;rw [h]
 | .yld a,b,h=>by cases b<;>simp [AVal.beq] at h;rw [h]
 | .fn f x y,b,h=>by cases b<;>simp [AVal.beq] at h
 | .nilf,b,h=>by cases b<;>simp [AVal.beq] at h;rfl
 | .iface t a,b,h=>by cases b<;>simp [AVal.beq] at h;rw [h.1,beq_eq h.2]
 | .nili,b,h=>by cases b<;>simp [AVal.beq] at h;rfl
 | .agg a,b,h=>by cases b<;>simp [AVal.beq] at h;rw [beqs_eq h]
 | .tup a,b,h=>by cases b<;>simp [AVal.beq] at h;rw [beqs_eq h]
theorem beqs_eq:∀ {a b:List AVal},AVal.beqs a b=true→a=b
 | [],b,h=>by cases b<;>simp [AVal.beqs] at h;rfl
 | a::as,b,h=>by
  cases b<;>simp [AVal.beqs] at h
  rw [beq_eq h.1,beqs_eq h.2]
end
theorem same_eq {e:Env} {op:AOp} {v:AVal} {h:AHeap} (hs:same e op v h=true):∃ h',aop e h op=some (v,h'):=by
 unfold same at hs
 split at hs
 ·rename_i u h' he
  exact ⟨h',by rw [he,beq_eq hs]⟩
 ·simp at hs
end Go.AM
namespace Go.AM
set_option linter.unusedVariables false
set_option linter.unusedSimpArgs false
def envAt (ts:List TS) (e:Env) (k:Nat):Env:=match ts[k]? with
 | some t=>t.e
 | none=>e
def StepOk (r:Rec) (d:DInstr) (t:TS) (e2:Env) (h2:AHeap):Prop :=
 e2=put t.e d.i.dst t.v∧(t.w=false→t.v=.tup []∧h2=t.h) ∧
 (t.w=true→match d.k,d.i.op with
  | .act _,.op op=>aop t.e t.h op=some (t.v,h2)
  | .act _,.call f args=>∃ g first captured,opd t.e f=.fn (.func g) first captured∧r.call g (first++args.map (opd t.e)++captured) t.h=some (.ret t.v,h2)
  | .pure,.op op=>h2=t.h∧∃ h',aop t.e t.h op=some (t.v,h')
  | .read _,.op op=>h2=t.h∧∃ h',aop t.e t.h op=some (t.v,h')
  | _,_=>False)
def PanOk (r:Rec) (d:DInstr) (t:TS) (v:AVal) (h2:AHeap):Prop :=
 t.w=true∧d.k=.act true∧∃ f args g first captured,d.i.op=.call f args∧opd t.e f=.fn (.func g) first captured∧r.call g (first++args.map (opd t.e)++captured) t.h=some (.panic v,h2)
structure TrOk (r:Rec) (dis:List DInstr) (e:Env) (h:AHeap) (ts:List TS) (o:TE) (e':Env) (h':AHeap):Prop where
 le:ts.length≤dis.length
 e0:envAt ts e' 0=e
 h0:heapAt ts h' 0=h
 wt:∀ (j:Nat) (d:DInstr) (t:TS),dis[j]?=some d→ts[j]?=some t→wanted t.e d.i.guard=some t.w
 st:∀ (j:Nat) (d:DInstr) (t:TS),dis[j]?=some d→ts[j]?=some t→(o=.fin∨j+1<ts.length)→StepOk r d t (envAt ts e' (j+1)) (heapAt ts h' (j+1))
 fin:o=.fin→ts.length=dis.length
 pan:∀ v,o=.pan v→∃ (j:Nat) (d:DInstr) (t:TS),ts.length=j+1∧dis[j]?=some d∧ts[j]?=some t∧PanOk r d t v h'
theorem TrOk.cons {r : Rec} {dis : List DInstr} {d : DInstr} {e e1 : Env} {h h1 : AHeap} {ts : List TS} {o : TE} {e' : Env} {h' : AHeap} {w : Bool} {v : AVal}
    (T:TrOk r dis e1 h1 ts o e' h') (hw:wanted e d.i.guard=some w) (hs:StepOk r d ⟨e,h,w,v⟩ e1 h1):TrOk r (d::dis) e h (⟨e,h,w,v⟩::ts) o e' h' where
  le:=by simpa using T.le
  e0:=rfl
  h0:=rfl
  wt:=fun j d' t hd ht=>by
    cases j with
    | zero=>simp at hd ht;subst hd;subst ht;exact hw
    | succ j=>exact T.wt j d' t (by simpa using hd) (by simpa using ht)
  st:=fun j d' t hd ht ho=>by
    cases j with
    | zero =>
      simp at hd ht;subst hd;subst ht
      have e1':envAt (⟨e,h,w,v⟩::ts) e' (0+1)=e1:=by rw [←T.e0];rfl
      have h1':heapAt (⟨e,h,w,v⟩::ts) h' (0+1)=h1:=by rw [←T.h0];rfl
      rw [e1',h1'];exact hs
    | succ j =>
      have:=T.st j d' t (by simpa using hd) (by simpa using ht) (by rcases ho with ho | ho;exact .inl ho;exact .inr (by simpa using ho))
      exact this
  fin:=fun ho=>by simpa using T.fin ho
  pan:=fun v ho=>by
    obtain ⟨j,d',t,h1,h2,h3,h4⟩:=T.pan v ho
    exact ⟨j+1,d',t,by simp [h1],by simpa using h2,by simpa using h3,h4⟩
theorem tr_ok {r:Rec}:∀ {dis:List DInstr} {e:Env} {h:AHeap} {ts:List TS} {o:TE} {e':Env} {h':AHeap},trD r dis e h=some (ts,o,e',h')→TrOk r dis e h ts o e' h'
 | [],e,h,ts,o,e',h',he=>by
  simp only [trD,Option.some.injEq,Prod.mk.injEq] at he
  obtain ⟨rfl,rfl,rfl,rfl⟩:=he
  exact ⟨Nat.le_refl _,rfl,rfl,fun j d t hd=>by simp at hd,fun j d t hd=>by simp at hd,fun _=>rfl,fun v hv=>by cases hv⟩
 | d::dis,e,h,ts,o,e',h',he=>by
  unfold trD at he
  split at he
  ·simp at he
  ·rename_i hw
   simp only [Option.map_eq_some_iff,Prod.exists,Prod.mk.injEq] at he
   obtain ⟨ts',o',e1,h1,htr,rfl,rfl,rfl,rfl⟩:=he
   exact (tr_ok htr).cons hw ⟨rfl,fun _=>⟨rfl,rfl⟩,fun hh=>by cases hh⟩
  ·rename_i hw
   split at he
   ·rename_i last op hk hop
    split at he
    ·rename_i v h1 ha
     simp only [Option.map_eq_some_iff,Prod.exists,Prod.mk.injEq] at he
     obtain ⟨ts',o',e1,h1',htr,rfl,rfl,rfl,rfl⟩:=he
     exact (tr_ok htr).cons hw ⟨rfl,(fun hh=>by cases hh),fun _=>by rw [hk,hop];exact ha⟩
    ·simp at he
   ·rename_i last f args hk hop
    split at he
    ·rename_i g first captured hf
     split at he
     ·rename_i v h1 ha
      simp only [Option.map_eq_some_iff,Prod.exists,Prod.mk.injEq] at he
      obtain ⟨ts',o',e1,h1',htr,rfl,rfl,rfl,rfl⟩:=he
      exact (tr_ok htr).cons hw ⟨rfl,(fun hh=>by cases hh),fun _=>by rw [hk,hop];exact ⟨g,first,captured,hf,ha⟩⟩
     ·rename_i v h1 ha
      split at he
      ·rename_i hl
       simp only [Option.some.injEq,Prod.mk.injEq] at he
       obtain ⟨rfl,rfl,rfl,rfl⟩:=he
       refine ⟨by simp,rfl,rfl,fun j d' t hd ht=>?_,fun j d' t hd ht ho=>?_,(fun ho=>by cases ho),fun v' hv'=>?_⟩
       ·cases j with
        | zero=>simp at hd ht;subst hd;subst ht;exact hw
        | succ j=>simp at ht
       ·rcases ho with ho | ho
        ·cases ho
        ·simp at ho
       ·simp only [TE.pan.injEq] at hv'
        subst hv'
        exact ⟨0,d,_,rfl,rfl,rfl,rfl,by rw [hk,hl],f,args,g,first,captured,hop,hf,ha⟩
      ·simp at he
     ·simp at he
    ·simp at he
   ·rename_i op hop hk1
    split at he
    ·rename_i v h1 ha
     simp only [Option.map_eq_some_iff,Prod.exists,Prod.mk.injEq] at he
     obtain ⟨ts',o',e1,h1',htr,rfl,rfl,rfl,rfl⟩:=he
     refine (tr_ok htr).cons hw ⟨rfl,(fun hh=>by cases hh),fun _=>?_⟩
     rw [hop]
     cases hk:d.k with
     | pure=>exact ⟨rfl,_,ha⟩
     | read qs=>exact ⟨rfl,_,ha⟩
     | act last=>exact (hk1 last hk).elim
    ·simp at he
   ·simp at he
theorem readsOk_at {all:List TS} {h:AHeap}:∀ {dis:List DInstr} {ts:List TS},readsOk all h dis ts=true→∀ (j:Nat) (d:DInstr) (t:TS),dis[j]?=some d→ts[j]?=some t→readOk all h d t=true
 | [],ts,hr,j,d,t,hd,ht=>by simp at hd
 | d0::dis,[],hr,j,d,t,hd,ht=>by simp at ht
 | d0::dis,t0::ts,hr,j,d,t,hd,ht=>by
  simp only [readsOk,Bool.and_eq_true] at hr
  cases j with
  | zero=>simp at hd ht;subst hd;subst ht;exact hr.1
  | succ j=>exact readsOk_at hr.2 j d t (by simpa using hd) (by simpa using ht)
/-! ### What the compiler has looked at -/
structure SOk (P:Program) (N:Nat) (ops:Array Oper) (ds:List DI) (dis:List DInstr):Prop where
  len:ds.length=ops.size
  len2:dis.length=ops.size
  ins:∀ (j:Nat) (o:Oper),ops[j]?=some o→∃ (d:DI) (k:DInstr),ds[j]?=some d∧cInstr P N ops o=some d.i∧insClass d.i.op=some d.c∧dkOf ds ds.length j d=some k∧dis[j]?=some k
  ok:drawOk ops.toList ds=true
theorem mkDI_at:∀ {is:List AInstr} {ms:List Nat} {ds:List DI},mkDI is ms=some ds→ds.length=is.length∧∀ (j:Nat) (i:AInstr),is[j]?=some i→∃ d:DI,ds[j]?=some d∧d.i=i∧insClass i.op=some d.c
 | [],ms,ds,h=>by simp [mkDI] at h;subst h;simp
 | i::is,ms,ds,h=>by
  simp only [mkDI,Option.bind_eq_some_iff,Option.map_eq_some_iff] at h
  obtain ⟨c,hc,ds',h',rfl⟩:=h
  obtain ⟨h1,h2⟩:=mkDI_at h'
  refine ⟨by simp [h1],fun j i' hj=>?_⟩
  cases j with
  | zero=>simp at hj;subst hj;exact ⟨_,rfl,rfl,hc⟩
  | succ j=>exact h2 j i' (by simpa using hj)
theorem dksOf_at {ds:List DI} {n:Nat}:∀ {l:List DI} {k:Nat} {dis:List DInstr},dksOf ds n l k=some dis→dis.length=l.length∧∀ (j:Nat) (d:DI),l[j]?=some d→∃ x:DInstr,dkOf ds n (k+j) d=some x∧dis[j]?=some x
 | [],k,dis,h=>by simp [dksOf] at h;subst h;simp
 | d::l,k,dis,h=>by
  simp only [dksOf,Option.bind_eq_some_iff,Option.map_eq_some_iff] at h
  obtain ⟨x,hx,dis',h',rfl⟩:=h
  obtain ⟨h1,h2⟩:=dksOf_at h'
  refine ⟨by simp [h1],fun j d' hj=>?_⟩
  cases j with
  | zero=>simp at hj;subst hj;exact ⟨x,hx,rfl⟩
  | succ j =>
   obtain ⟨y,hy1,hy2⟩:=h2 j d' (by simpa using hj)
   exact ⟨y,by rw [show k+(j+1)=k+1+j by omega];exact hy1,by simpa using hy2⟩
theorem cInstrs_len {P:Program} {N:Nat} {ops:Array Oper}:∀ {os:List Oper} {is:List AInstr},cInstrs P N ops os=some is→is.length=os.length
 | [],is,h=>by simp [cInstrs] at h;subst h;rfl
 | o::os,is,h=>by
  simp only [cInstrs,Option.bind_eq_some_iff,Option.map_eq_some_iff] at h
  obtain ⟨i,hi,is',h',rfl⟩:=h
  simp [cInstrs_len h']
theorem sOk_of {P : Program} {N : Nat} {ops : Array Oper} {is : List AInstr} {ds : List DI} {dis : List DInstr} (h1 : cInstrs P N ops ops.toList = some is) (h2 : mkDI is (preMasks ops.toList 0 []) = some ds)
    (h3:drawOk ops.toList ds=true) (h4:dksOf ds ds.length ds 0=some dis):SOk P N ops ds dis:=by
  obtain ⟨l1,a1⟩:=mkDI_at h2
  obtain ⟨l2,a2⟩:=dksOf_at h4
  have l3:=cInstrs_len h1
  refine ⟨by rw [l1,l3];simp,by rw [l2,l1,l3];simp,fun j o ho=>?_,h3⟩
  obtain ⟨i,hi1,hi2⟩:=cInstrs_mem h1 j o (by simpa using ho)
  obtain ⟨d,hd1,hd2,hd3⟩:=a1 j i hi1
  obtain ⟨k,hk1,hk2⟩:=a2 j d hd1
  subst hd2
  exact ⟨d,k,hd1,hi2,hd3,by simpa using hk1,hk2⟩
section
variable {P:Program} {N:Nat} {ops:Array Oper} {ds:List DI} {dis:List DInstr} (S:SOk P N ops ds dis)
 include S
theorem SOk.all {j : Nat} {o : Oper} {d : DI} (ho : ops[j]? = some o) (hd : ds[j]? = some d) :
    preOk ops.toList ds ds.length j o d=true∧freeOk ds ds.length d=true∧∀ (i:Nat) (x:DI),i<j→ds[i]?=some x→pairOk ds i j x d=true:=by
  have hok:=S.ok
  simp only [drawOk,List.all_eq_true,List.mem_range] at hok
  have hj:j<ds.length:=(List.getElem?_eq_some_iff.1 hd).1
  have:=hok j hj
  have ho':ops.toList[j]?=some o:=by simpa using ho
  rw [ho',hd] at this
  simp only [Bool.and_eq_true,List.all_eq_true,List.mem_range] at this
  obtain ⟨⟨h1,h2⟩,h3⟩:=this
  refine ⟨h1,h2,fun i x hi hx=>?_⟩
  have:=h3 i hi
  rw [hx] at this
  exact this
theorem SOk.at {j:Nat} (hj:j<ops.size):∃ (o:Oper) (d:DI) (k:DInstr),ops[j]?=some o∧ds[j]?=some d∧cInstr P N ops o=some d.i∧insClass d.i.op=some d.c∧dkOf ds ds.length j d=some k∧dis[j]?=some k:=by
 obtain ⟨d,k,h⟩:=S.ins j ops[j] (Array.getElem?_eq_getElem hj)
 exact ⟨_,d,k,Array.getElem?_eq_getElem hj,h⟩
theorem SOk.edge {j i:Nat} {o:Oper} {d:DI} (ho:ops[j]?=some o) (hd:ds[j]?=some d) (hi:i∈bindsOn o):i<j∧bitOf d.pre i=true:=by
 have:=(S.all ho hd).1
 simp only [preOk,Bool.and_eq_true,List.all_eq_true,decide_eq_true_eq] at this
 exact this.1 i hi
theorem SOk.bit {j i : Nat} {o : Oper} {d : DI} (ho : ops[j]? = some o) (hd : ds[j]? = some d) (hin : i < ops.size) (hi : bitOf d.pre i = true) :
    i<j∧∃ m∈bindsOn o,m=i∨(m<j∧∃ e,ds[m]?=some e∧bitOf e.pre i=true):=by
  have:=(S.all ho hd).1
  simp only [preOk,Bool.and_eq_true,List.all_eq_true,List.mem_range,Bool.or_eq_true,Bool.not_eq_true',decide_eq_true_eq,List.any_eq_true,beq_iff_eq,Option.any_eq_true] at this
  have h2:=this.2 i (by rw [S.len];exact hin)
  rcases h2 with h2 | ⟨h2,m,hm,h3⟩
  · rw [hi] at h2;cases h2
  · refine ⟨h2,m,hm,?_⟩
    rcases h3 with h3 | ⟨h3,e,he1,he2⟩
    · exact .inl h3
    · exact .inr ⟨h3,e,he1,he2⟩
end
def Li (listed:Array Bool) (i:Nat):Prop:=listed.getD i false=true
theorem Li_set {listed:Array Bool} {i:Nat} (hi:i<listed.size) (j:Nat):Li (listed.setIfInBounds i true) j↔j=i∨Li listed j:=by
 unfold Li
 simp only [Array.getD_eq_getD_getElem?,Array.getElem?_setIfInBounds]
 by_cases h:i=j
 ·subst h;rw [if_pos rfl,if_pos hi];simp
 ·rw [if_neg h];simp [Ne.symm h]
theorem ready_iff {ops:Array Oper} {listed:Array Bool} (hs:listed.size=ops.size) {i:Nat} (h:i∈Region.ready .any ops listed):i<ops.size∧¬ Li listed i∧∀ o,ops[i]?=some o→∀ m∈bindsOn o,Li listed m:=by
 simp only [Region.ready,List.mem_filter,List.mem_range,Bool.and_eq_true,Bool.not_eq_true'] at h
 obtain ⟨h1,h2,h3⟩:=h
 refine ⟨h1,?_,fun o ho m hm=>?_⟩
 ·unfold Li
  simp only [Array.getD_eq_getD_getElem?] at h2 ⊢
  rw [Array.getElem?_eq_getElem (by omega)] at h2 ⊢
  simp at h2 ⊢
  exact h2
 ·rw [ho] at h3
  simp only [Option.map_some,Option.getD_some,Array.all_eq_true'] at h3
  simp only [bindsOn,List.mem_map,List.mem_filter] at hm
  obtain ⟨e,⟨he1,he2⟩,rfl⟩:=hm
  have:=h3 e (by simpa using he1)
  simp only [he2,Bool.not_true,Bool.false_or] at this
  exact this
end Go.AM
namespace Go.AM
set_option linter.unusedVariables false
set_option linter.unusedSimpArgs false
theorem Rel.adopt {h0 : AHeap} {β0 : Pl} {w0 : World} {h : AHeap} {β : Pl} {w : World} (R : Rel h β w) (X : Ext h0 β0 w0 h β w) {b : Nat} {c : Array Value} {ty : TypeId} {vs : List AVal}
    (hb:w.heap[b]?=some (.cells c ty (0,0))) (hne:∀ id,id<h.n→(h.get id).real=true→(β id).b≠b) (hb0:w0.heap.size≤b) (hl:vs.length≤c.size) (hr:∀ h β,vrels h β vs (c.toList.take vs.length)) :
    Rel (h.push (.cells 0 false vs)) (updP β h.n ⟨b,0,vs.length⟩) w∧Ext h0 β0 w0 (h.push (.cells 0 false vs)) (updP β h.n ⟨b,0,vs.length⟩) w:=by
  have hx:HExt h β (h.push (.cells 0 false vs)) (updP β h.n ⟨b,0,vs.length⟩):=by
    refine ⟨by simp,fun j hj=>?_⟩
    have e:j≠h.n:=by omega
    have:(h.push (.cells 0 false vs)).gen j=h.gen j:=by unfold AHeap.gen;rw [AHeap.get_push_ne h _ e]
    rw [this];exact ⟨Nat.le_refl _,fun _=>updP_ne β _ e⟩
  refine ⟨⟨fun j hj=>?_,fun i j hi hj hij hio hjr=>?_,fun j hj=>?_,fun j hj=>?_⟩,⟨X.ext.trans hx,X.size,X.keep,fun j hj ho=>?_,fun j hj ho=>?_,X.os,X.out,X.gl,X.fz⟩⟩
  · by_cases e:j=h.n
    · subst e;rw [AHeap.get_push_same,updP_same]
      exact ⟨c,ty,(0,0),hb,fun _=>rfl,by simpa using hl,Nat.le_refl _,by simpa using hr _ _⟩
    · have hj':j<h.n:=by simp at hj;omega
      rw [AHeap.get_push_ne h _ e,updP_ne β _ e]
      exact (R.obj j hj').mono hx fun hjr=>rfl
  · simp only [AHeap.n_push] at hi hj
    by_cases ei:i=h.n
    · subst ei
      have ej:j≠h.n:=Ne.symm hij
      rw [AHeap.get_push_ne h _ ej] at hjr
      rw [updP_same,updP_ne β _ ej]
      exact fun e=>hne j (by omega) hjr e.symm
    · rw [AHeap.get_push_ne h _ ei] at hio
      by_cases ej:j=h.n
      · subst ej
        rw [updP_same,updP_ne β _ ei]
        exact hne i (by omega) (AObj.real_of_own hio)
      · rw [AHeap.get_push_ne h _ ej] at hjr
        rw [updP_ne β _ ei,updP_ne β _ ej]
        exact R.inj i j (by omega) (by omega) hij hio hjr
  · simp only [AHeap.n_push] at hj
    rw [AHeap.get_push_ne h _ (by omega)];exact R.top j (by omega)
  · obtain ⟨g1,g2,g3,g4,g5⟩:=R.glob j hj
    have e:j≠h.n:=by omega
    have e1:(h.push (.cells 0 false vs)).gen j=h.gen j:=by unfold AHeap.gen;rw [AHeap.get_push_ne h _ e]
    rw [AHeap.get_push_ne h _ e,e1,updP_ne β _ e]
    exact ⟨by simp;omega,g2,g3,g4,g5⟩
  · rw [AHeap.get_push_ne h _ (by have:=X.ext.1;omega)];exact X.ro j hj ho
  · by_cases e:j=h.n
    · subst e
      rw [updP_same];exact .inr hb0
    · rw [AHeap.get_push_ne h _ e] at ho
      rw [updP_ne β _ e]
      exact X.own j (by simp at hj;omega) ho
def rest (e:Env):List Nat→Env
 | []=>.nil
 | t::l=>Tr.set (rest e l) t (e.val t)
theorem rest_val (e:Env):∀ (l:List Nat) (t:Nat),(rest e l).val t=if t∈l then e.val t else .undef
 | [],t=>rfl
 | s::l,t=>by
  have ih:=rest_val e l t
  unfold Env.val at ih ⊢
  simp only [rest,Tr.get_set]
  by_cases h:t=s
  ·subst h;simp [Env.val]
  ·rw [if_neg h]
   by_cases hm:t∈l
   ·rw [if_pos hm] at ih;rw [if_pos (List.mem_cons_of_mem _ hm)];exact ih
   ·rw [if_neg hm] at ih;rw [if_neg (by simp [h,hm])];exact ih
theorem put_val (e:Env) (dst:Option Nat) (v:AVal) (t:Nat):(put e dst v).val t=if dst=some t then v else e.val t:=by
 cases dst with
 | none=>simp [put]
 | some d =>
  simp only [put,Env.val,Tr.get_set,Option.some.injEq]
  by_cases h:t=d
  ·subst h;simp
  ·rw [if_neg h,if_neg (Ne.symm h)]
theorem put_tmps {a:Act} {dst:Option Nat} {v:Value} {t:Nat}:dst≠some t→(a.put dst v).tmps.getD t undef=a.tmps.getD t undef:=by
 intro h
 cases dst with
 | none=>rfl
 | some d =>
  simp only [ne_eq,Option.some.injEq] at h
  simp only [Act.put,Array.getD_eq_getD_getElem?,Array.getElem?_setIfInBounds,if_neg h]
theorem put_tmps_same {a:Act} {t:Nat} {v:Value} (h:t<a.tmps.size):(a.put (some t) v).tmps.getD t undef=v:=by
 simp only [Act.put,Array.getD_eq_getD_getElem?,Array.getElem?_setIfInBounds,if_pos,if_pos h];rfl
section
variable {P:Program} {N:Nat} {ops:Array Oper} {ds:List DI} {dis:List DInstr} {r:Rec} {e0:Env} {h0:AHeap} {ts:List TS} {o:TE} {e1:Env} {h1:AHeap} {β0:Pl} {w0:World} {dfs:List Deferred}
def isA (ds:List DI) (i:Nat):Prop:=∃ d,ds[i]?=some d∧d.c.isAct=true
def wrt (ds:List DI) (i t:Nat):Prop:=∃ d,ds[i]?=some d∧d.i.dst=some t
def pbf (ds:List DI) (i j:Nat):Prop:=∃ d,ds[j]?=some d∧bitOf d.pre i=true
def frA (ds:List DI) (i:Nat):Prop:=∃ d,ds[i]?=some d∧d.c=.free
def reach (ops:Array Oper) (ts:List TS):TE→Nat
 | .fin=>ops.size
 | .pan _=>ts.length-1
theorem actsAhead_lt {ds:List DI} {i k x:Nat} (h1:i≤x) (h2:x<k) (hx:isA ds x):actsAhead ds i<actsAhead ds k:=by
 obtain ⟨d,hd,hc⟩:=hx
 have hxl:x<ds.length:=(List.getElem?_eq_some_iff.1 hd).1
 have hle:∀ a b,a≤b→actsAhead ds a≤actsAhead ds b:=by
  intro a b hab
  unfold actsAhead
  have:(ds.take a)=(ds.take b).take a:=by rw [List.take_take,Nat.min_eq_left hab]
  rw [this]
  exact List.Sublist.length_le (List.Sublist.filter _ (List.take_sublist _ _))
 have hstep:actsAhead ds (x+1)=actsAhead ds x+1:=by
  unfold actsAhead
  rw [List.take_add_one,hd]
  simp [List.filter_append,hc]
 have a1:=hle i x h1
 have a2:=hle (x+1) k h2
 omega
def Pend (ops:Array Oper) (ds:List DI) (ts:List TS) (h1:AHeap) (w0:World) (L:Nat) (listed:Array Bool) (bl:Nat→Nat) (a:Act) (w:World) (p:Nat) (β:Pl) (f:Nat):Prop :=
 frA ds f∧(∀ x t,f<x→x<ops.size→wrt ds f t→wrt ds x t→¬ Li listed x)∧(f<L→∀ tr,ts[f]?=some tr →
  (tr.w=false→∀ t,wrt ds f t→a.tmps.getD t undef=undef) ∧
  (tr.w=true→∃ c ty vs,w.heap[bl f]?=some (.cells c ty (0,0))∧w0.heap.size≤bl f∧(∀ id,id<(heapAt ts h1 p).n→((heapAt ts h1 p).get id).real=true→(β id).b≠bl f) ∧
   heapAt ts h1 (f+1)=(heapAt ts h1 f).push (.cells 0 false vs)∧vs.length≤c.size∧(∀ h β,vrels h β vs (c.toList.take vs.length)) ∧
   ∀ t,wrt ds f t→∀ h2 β2,(heapAt ts h1 f).n<h2.n→h2.gen (heapAt ts h1 f).n=0→β2 (heapAt ts h1 f).n=⟨bl f,0,vs.length⟩→vrel h2 β2 tr.v (a.tmps.getD t undef)))
structure Inv (P:Program) (N:Nat) (ops:Array Oper) (ds:List DI) (ts:List TS) (o:TE) (e1:Env) (h1:AHeap) (h0:AHeap) (β0:Pl) (w0:World) (dfs:List Deferred) (bl:Nat→Nat) (listed:Array Bool) (a:Act) (w:World) (p:Nat) (β:Pl):Prop where
 sz:listed.size=ops.size
 pL:p≤reach ops ts o
 acts:∀ i,i<p→isA ds i→Li listed i
 nolast:∀ v,o=.pan v→¬ Li listed (reach ops ts o)
 rel:Rel (heapAt ts h1 p) β w
 gg:GOk P (heapAt ts h1 p)
 ext:Ext h0 β0 w0 (heapAt ts h1 p) β w
 closed:∀ j oj,ops[j]?=some oj→Li listed j→∀ m∈bindsOn oj,Li listed m
 env:∀ t,(∃ i,i≤reach ops ts o∧(∀ x,x<i→wrt ds x t→Li listed x)∧(∀ x,i≤x→x<ops.size→wrt ds x t→¬ Li listed x)∧vrel (heapAt ts h1 p) β ((envAt ts e1 i).val t) (a.tmps.getD t undef)) ∨
  (∃ f,p≤f∧f<ops.size∧isA ds f∧Li listed f∧wrt ds f t)
 pend:∀ f,p≤f→f<ops.size→isA ds f→Li listed f→Pend ops ds ts h1 w0 (reach ops ts o) listed bl a w p β f
 dist:∀ f g,p≤f→p≤g→f<reach ops ts o→g<reach ops ts o→Li listed f→Li listed g→(∃ t,ts[f]?=some t∧t.w=true)→(∃ t,ts[g]?=some t∧t.w=true)→isA ds f→isA ds g→f≠g→bl f≠bl g
 dfr:a.defers=dfs
 tmps:N≤a.tmps.size
theorem pbf_listed (S : SOk P N ops ds dis) {listed : Array Bool} (hc : ∀ j oj, ops[j]? = some oj → Li listed j → ∀ m ∈ bindsOn oj, Li listed m) :
    ∀ (j:Nat),j<ops.size→(∀ oj,ops[j]?=some oj→∀ m∈bindsOn oj,Li listed m)→∀ i,i<ops.size→pbf ds i j→Li listed i:=by
  intro j
  induction j using Nat.strongRecOn with
  | _ j ih =>
    intro hj hm i hi hp
    obtain ⟨oj,d,k,ho,hd,_⟩:=S.at hj
    obtain ⟨d',hd',hb⟩:=hp
    rw [hd] at hd'
    cases hd'
    obtain ⟨h1,m,hmm,h2⟩:=S.bit ho hd hi hb
    rcases h2 with h2 | ⟨h2,e,he1,he2⟩
    · subst h2;exact hm oj ho m hmm
    · have hml:=hm oj ho m hmm
      exact ih m h2 (by omega) (fun om hom x hx=>hc m om hom hml x hx) i hi ⟨e,he1,he2⟩
theorem SOk.pair (S : SOk P N ops ds dis) {i j : Nat} (hij : i < j) (hj : j < ops.size) : pbf ds i j ∨
    ((∀ t,wrt ds i t→(∀ d,ds[j]?=some d→t ∉ insReads d.i)∧¬ wrt ds j t)∧(∀ t,wrt ds j t→∀ d,ds[i]?=some d→t ∉ insReads d.i)∧(isA ds i→isA ds j→frA ds j)):=by
  obtain ⟨oj,y,ky,ho,hy,_⟩:=S.at hj
  obtain ⟨oi,x,kx,hoi,hx,_⟩:=S.at (show i<ops.size by omega)
  have hp:=(S.all ho hy).2.2 i x hij hx
  simp only [pairOk,Bool.or_eq_true,Bool.and_eq_true] at hp
  rcases hp with hp | ⟨⟨p1,p2⟩,p3⟩
  · exact .inl ⟨y,hy,hp⟩
  · right
    refine ⟨fun t ht=>?_,fun t ht d hd=>?_,fun ha hb=>?_⟩
    · obtain ⟨d,hd,hdt⟩:=ht
      rw [hx] at hd;cases hd
      rw [hdt] at p1
      simp only [Bool.and_eq_true,Bool.not_eq_true',bne_iff_ne,ne_eq] at p1
      refine ⟨fun d hd hm=>?_,fun ⟨d,hd,hdt'⟩=>?_⟩
      · rw [hy] at hd;cases hd
        have:=p1.1
        simp at this
        exact this hm
      · rw [hy] at hd;cases hd
        exact p1.2 hdt'
    · obtain ⟨d',hd',hdt⟩:=ht
      rw [hy] at hd';cases hd'
      rw [hx] at hd;cases hd
      rw [hdt] at p2
      simpa using p2
    · obtain ⟨d,hd,hda⟩:=ha
      rw [hx] at hd;cases hd
      obtain ⟨d,hd,hdb⟩:=hb
      rw [hy] at hd;cases hd
      rcases p3 with p3 | p3
      · rw [hda,hdb] at p3;simp at p3
      · exact ⟨y,hy,by simpa using p3⟩
theorem SOk.free (S:SOk P N ops ds dis) {f y c:Nat} (hf:frA ds f) (hy:y<ops.size) (hp:pbf ds f y) (hc:c<f) (hca:isA ds c):pbf ds c y:=by
 obtain ⟨oy,d,k,ho,hd,_⟩:=S.at hy
 have:=(S.all ho hd).2.1
 simp only [freeOk,List.all_eq_true,List.mem_range,Option.all_eq_true,Bool.or_eq_true,Bool.not_eq_true',Bool.and_eq_false_iff] at this
 obtain ⟨x,hx,hxf⟩:=hf
 obtain ⟨d',hd',hb⟩:=hp
 rw [hd] at hd';cases hd'
 have h1:=this f (List.getElem?_eq_some_iff.1 hx).1 x hx
 rcases h1 with h1 | h1
 ·rcases h1 with h1 | h1
  ·rw [hxf] at h1;simp at h1
  ·rw [hb] at h1;cases h1
 ·obtain ⟨z,hz,hza⟩:=hca
  have h2:=h1 c hc z hz
  rcases h2 with h2 | h2
  ·rw [hza] at h2;cases h2
  ·exact ⟨d,hd,h2⟩
end
end Go.AM
namespace Go.AM
set_option linter.unusedVariables false
set_option linter.unusedSimpArgs false
section
variable {P:Program} {N:Nat} {ops:Array Oper} {ds:List DI} {dis:List DInstr} {r:Rec} {e0:Env} {h0:AHeap} {ts:List TS} {o:TE} {e1:Env} {h1:AHeap} {β0:Pl} {w0:World} {dfs:List Deferred}
 (S:SOk P N ops ds dis) (T:TrOk r dis e0 h0 ts o e1 h1)
 include S T in
theorem step_at {j : Nat} (hj : j < reach ops ts o) : ∃ oj d k t, ops[j]? = some oj ∧ ds[j]? = some d ∧ dis[j]? = some k ∧ ts[j]? = some t ∧ cInstr P N ops oj = some d.i ∧ insClass d.i.op = some d.c ∧ dkOf ds ds.length j d = some k ∧ k.i = d.i ∧
    envAt ts e1 j=t.e∧heapAt ts h1 j=t.h∧wanted t.e d.i.guard=some t.w∧StepOk r k t (envAt ts e1 (j+1)) (heapAt ts h1 (j+1)):=by
  have hjn:j<ops.size:=by
    cases ho:o with
    | fin=>rw [ho] at hj;exact hj
    | pan v =>
      rw [ho] at hj
      have:=T.le
      rw [S.len2] at this
      simp only [reach] at hj
      omega
  have hjt:j<ts.length:=by
    cases ho:o with
    | fin=>rw [T.fin ho,S.len2];exact hjn
    | pan v=>rw [ho] at hj;simp only [reach] at hj;omega
  obtain ⟨oj,d,k,q1,q2,q3,q4,q5,q6⟩:=S.at hjn
  have ht:ts[j]?=some ts[j]:=List.getElem?_eq_getElem hjt
  have hki:k.i=d.i:=by
    unfold dkOf at q5
    split at q5<;>(simp only [Option.some.injEq] at q5;subst q5;rfl)
  refine ⟨oj,d,k,ts[j],q1,q2,q6,ht,q3,q4,q5,hki,by simp [envAt,ht],by simp [heapAt,ht],by rw [←hki];exact T.wt j k _ q6 ht,T.st j k _ q6 ht ?_⟩
  cases ho:o with
  | fin=>exact .inl rfl
  | pan v=>right;rw [ho] at hj;simp only [reach] at hj;omega
 include S T in
theorem env_same {t:Nat}:∀ (k i:Nat),i≤k→k≤reach ops ts o→(∀ x,i≤x→x<k→¬ wrt ds x t)→(envAt ts e1 k).val t=(envAt ts e1 i).val t:=by
  intro k
  induction k with
  | zero => intro i hi hk hw; obtain rfl : i = 0 := by omega
            rfl
  | succ k ih =>
    intro i hi hk hw
    by_cases e:i=k+1
    · subst e;rfl
    · rw [←ih i (by omega) (by omega) (fun x hx1 hx2=>hw x hx1 (by omega))]
      obtain ⟨oj,d,kk,tt,q1,q2,q3,q4,q5,q6,q7,q8,q9,q10,q11,q12⟩:=step_at S T (show k<reach ops ts o by omega)
      rw [q12.1,q9,put_val,q8,if_neg]
      intro hd
      exact hw k (by omega) (by omega) ⟨d,q2,hd⟩
 include S T in
theorem heap_same:∀ (k i:Nat),i≤k→k≤reach ops ts o→(∀ x,i≤x→x<k→¬ isA ds x)→heapAt ts h1 k=heapAt ts h1 i:=by
  intro k
  induction k with
  | zero => intro i hi hk hw; obtain rfl : i = 0 := by omega
            rfl
  | succ k ih =>
    intro i hi hk hw
    by_cases e:i=k+1
    · subst e;rfl
    · rw [←ih i (by omega) (by omega) (fun x hx1 hx2=>hw x hx1 (by omega))]
      obtain ⟨oj,d,kk,tt,q1,q2,q3,q4,q5,q6,q7,q8,q9,q10,q11,q12⟩:=step_at S T (show k<reach ops ts o by omega)
      rw [q10]
      cases htw:tt.w with
      | false=>exact (q12.2.1 htw).2
      | true =>
        have:=q12.2.2 htw
        have hna:¬ d.c.isAct=true:=fun h=>hw k (by omega) (by omega) ⟨d,q2,h⟩
        unfold dkOf at q7
        cases hc:d.c with
        | pure =>
          rw [hc] at q7;simp only [Option.some.injEq] at q7;subst q7
          simp only at this
          split at this
          · cases ‹DK.pure=DK.act _›
          · cases ‹DK.pure=DK.act _›
          · exact this.1
          · exact this.1
          · exact this.elim
        | read =>
          rw [hc] at q7;simp only [Option.some.injEq] at q7;subst q7
          simp only at this
          split at this
          · cases ‹DK.read _=DK.act _›
          · cases ‹DK.read _=DK.act _›
          · exact this.1
          · exact this.1
          · exact this.elim
        | act=>rw [hc] at hna;simp [DC.isAct] at hna
        | free=>rw [hc] at hna;simp [DC.isAct] at hna
variable {bl:Nat→Nat} {listed:Array Bool} {a:Act} {w:World} {p:Nat} {β:Pl}
 include S T in
theorem Inv.absorb1 (I : Inv P N ops ds ts o e1 h1 h0 β0 w0 dfs bl listed a w p β) (hp : p < reach ops ts o) (hl : isA ds p → Li listed p) :
    ∃ β',Inv P N ops ds ts o e1 h1 h0 β0 w0 dfs bl listed a w (p+1) β':=by
  obtain ⟨oj,d,kk,tt,q1,q2,q3,q4,q5,q6,q7,q8,q9,q10,q11,q12⟩:=step_at S T hp
  have hpn:p<ops.size:=(Array.getElem?_eq_some_iff.1 q1).1
  have key : ∀ β', Rel (heapAt ts h1 (p + 1)) β' w → GOk P (heapAt ts h1 (p + 1)) → Ext h0 β0 w0 (heapAt ts h1 (p + 1)) β' w → HExt (heapAt ts h1 p) β (heapAt ts h1 (p + 1)) β' →
      (∀ t,isA ds p→wrt ds p t→vrel (heapAt ts h1 (p+1)) β' ((envAt ts e1 (p+1)).val t) (a.tmps.getD t undef)) →
      (∀ f,p<f→f<reach ops ts o→isA ds f→Li listed f→(∃ tr,ts[f]?=some tr∧tr.w=true)→∀ id,id<(heapAt ts h1 (p+1)).n→((heapAt ts h1 (p+1)).get id).real=true→(β' id).b≠bl f) →
      Inv P N ops ds ts o e1 h1 h0 β0 w0 dfs bl listed a w (p+1) β':=by
    intro β' R' g' X' HX hnew hbl
    refine { sz:=I.sz,pL:=by omega,acts:=fun i hi ha=>?_,nolast:=I.nolast,rel:=R',gg:=g',ext:=X',closed:=I.closed,env:=fun t=>?_,pend:=fun f hf hfn hfa hfl=>?_,dist:=fun f g hf hg=>I.dist f g (by omega) (by omega),dfr:=I.dfr,tmps:=I.tmps }
    · by_cases e:i=p
      · subst e;exact hl ha
      · exact I.acts i (by omega) ha
    · rcases I.env t with ⟨i,i1,i2,i3,i4⟩ | ⟨f,f1,f2,f3,f4,f5⟩
      · exact .inl ⟨i,i1,i2,i3,vrel.mono HX i4⟩
      · by_cases e:f=p
        · subst e
          left
          have hpe:=I.pend f (Nat.le_refl _) hpn f3 f4
          refine ⟨f+1,by omega,fun x hx hwx=>?_,fun x hx hxn hwx=>hpe.2.1 x t (by omega) hxn f5 hwx,hnew t f3 f5⟩
          by_cases ex:x=f
          · subst ex;exact f4
          · rcases S.pair (show x<f by omega) hpn with hpp | ⟨hpp,_,_⟩
            · exact pbf_listed S I.closed f hpn (fun oj' ho' m hm=>I.closed f oj' ho' f4 m hm) x (by omega) hpp
            · exact absurd f5 (hpp t hwx).2
        · exact .inr ⟨f,by omega,f2,f3,f4,f5⟩
    · have hpe:=I.pend f (by omega) hfn hfa hfl
      refine ⟨hpe.1,hpe.2.1,fun hfL tr htr=>⟨(hpe.2.2 hfL tr htr).1,fun htw=>?_⟩⟩
      obtain ⟨c,ty,vs,c1,c2,c3,c4,c5,c6,c7⟩:=(hpe.2.2 hfL tr htr).2 htw
      exact ⟨c,ty,vs,c1,c2,hbl f (by omega) hfL hfa hfl ⟨tr,htr,htw⟩,c4,c5,c6,c7⟩
  have hblsame:∀ f,p<f→f<reach ops ts o→isA ds f→Li listed f→(∃ tr,ts[f]?=some tr∧tr.w=true)→∀ id,id<(heapAt ts h1 p).n→((heapAt ts h1 p).get id).real=true→(β id).b≠bl f:=by
    intro f hf hfL hfa hfl ⟨tr,htr,htw⟩ id hid hr
    have hfn:f<ops.size:=by obtain ⟨d',hd',_⟩:=hfa;rw [←S.len];exact (List.getElem?_eq_some_iff.1 hd').1
    obtain ⟨c,ty,vs,c1,c2,c3,_⟩:=((I.pend f (by omega) hfn hfa hfl).2.2 hfL tr htr).2 htw
    exact c3 id hid hr
  by_cases ha:isA ds p
  · have hpl:=hl ha
    have hpe:=I.pend p (Nat.le_refl _) hpn ha hpl
    obtain ⟨pw1,pw2⟩:=hpe.2.2 hp tt q4
    cases htw:tt.w with
    | false =>
      have hh:=(q12.2.1 htw)
      have hheap:heapAt ts h1 (p+1)=heapAt ts h1 p:=by rw [hh.2,q10]
      refine ⟨β,key β (by rw [hheap];exact I.rel) (by rw [hheap];exact I.gg) (by rw [hheap];exact I.ext) (by rw [hheap];exact HExt.refl _ _) (fun t _ ht=>?_) (fun f hf hfL hfa hfl hx=>by rw [hheap];exact hblsame f hf hfL hfa hfl hx)⟩
      obtain ⟨d',hd',hdt⟩:=ht
      rw [q2] at hd';cases hd'
      rw [q12.1,put_val,q8,if_pos hdt,hh.1,pw1 htw t ⟨d,q2,hdt⟩]
      simp [vrel,vrels,undef]
    | true =>
      obtain ⟨c,ty,vs,c1,c2,c3,c4,c5,c6,c7⟩:=pw2 htw
      obtain ⟨R',X'⟩:=Rel.adopt I.rel I.ext c1 c3 c2 c5 c6
      have hx:HExt (heapAt ts h1 p) β ((heapAt ts h1 p).push (.cells 0 false vs)) (updP β (heapAt ts h1 p).n ⟨bl p,0,vs.length⟩):=by
        refine ⟨by simp,fun j hj=>?_⟩
        have e:j≠(heapAt ts h1 p).n:=by omega
        have:((heapAt ts h1 p).push (.cells 0 false vs)).gen j=(heapAt ts h1 p).gen j:=by unfold AHeap.gen;rw [AHeap.get_push_ne _ _ e]
        rw [this];exact ⟨Nat.le_refl _,fun _=>updP_ne β _ e⟩
      refine ⟨updP β (heapAt ts h1 p).n ⟨bl p,0,vs.length⟩,key _ (by rw [c4];exact R') (by rw [c4];exact I.gg) (by rw [c4];exact X') (by rw [c4];exact hx) (fun t _ ht=>?_) (fun f hf hfL hfa hfl ⟨tr,htr,htrw⟩ id hid hr=>?_)⟩
      · obtain ⟨d',hd',hdt⟩:=ht
        rw [q2] at hd';cases hd'
        rw [q12.1,put_val,q8,if_pos hdt]
        refine c7 t ⟨d,q2,hdt⟩ _ _ (by rw [c4];simp) ?_ (by simp)
        rw [c4];unfold AHeap.gen;rw [AHeap.get_push_same]
      · rw [c4] at hid hr
        by_cases e:id=(heapAt ts h1 p).n
        · subst e
          rw [updP_same]
          exact I.dist p f (Nat.le_refl _) (by omega) hp hfL hpl hfl ⟨tt,q4,htw⟩ ⟨tr,htr,htrw⟩ ha hfa (by omega)
        · rw [updP_ne β _ e]
          rw [AHeap.get_push_ne _ _ e] at hr
          exact hblsame f hf hfL hfa hfl ⟨tr,htr,htrw⟩ id (by simp at hid;omega) hr
  · have hheap:heapAt ts h1 (p+1)=heapAt ts h1 p:=heap_same S T (p+1) p (by omega) (by omega) (fun x hx1 hx2=>(show x=p by omega) ▸ ha)
    exact ⟨β,key β (by rw [hheap];exact I.rel) (by rw [hheap];exact I.gg) (by rw [hheap];exact I.ext) (by rw [hheap];exact HExt.refl _ _) (fun t h=>absurd h ha) (fun f hf hfL hfa hfl hx=>by rw [hheap];exact hblsame f hf hfL hfa hfl hx)⟩
 include S T in
theorem Inv.absorb : ∀ (k : Nat) (p : Nat) (β : Pl), reach ops ts o - p = k → Inv P N ops ds ts o e1 h1 h0 β0 w0 dfs bl listed a w p β →
    ∃ q β',Inv P N ops ds ts o e1 h1 h0 β0 w0 dfs bl listed a w q β'∧(q=reach ops ts o∨(isA ds q∧¬ Li listed q)):=by
  intro k
  induction k with
  | zero=>intro p β hk I;exact ⟨p,β,I,.inl (by have:=I.pL;omega)⟩
  | succ k ih =>
    intro p β hk I
    by_cases h:isA ds p∧¬ Li listed p
    · exact ⟨p,β,I,.inr h⟩
    · obtain ⟨β', I'⟩ := Inv.absorb1 S T I (by omega) (fun ha => by
        by_cases hl:Li listed p
        · exact hl
        · exact absurd ⟨ha,hl⟩ h)
      exact ih (p+1) β' (by omega) I'
 include S T in
theorem Inv.operand (I : Inv P N ops ds ts o e1 h1 h0 β0 w0 dfs bl listed a w p β) (hfirst : p = reach ops ts o ∨ (isA ds p ∧ ¬ Li listed p)) {i : Nat} (hi : i ≤ reach ops ts o) (hin : i < ops.size) (hni : ¬ Li listed i)
    (hpre:∀ oi,ops[i]?=some oi→∀ m∈bindsOn oi,Li listed m) {d:DI} (hd:ds[i]?=some d) {t:Nat} (ht:t∈insReads d.i):vrel (heapAt ts h1 p) β ((envAt ts e1 i).val t) (a.tmps.getD t undef):=by
  have before:∀ x,x<i→wrt ds x t→Li listed x:=by
    intro x hx hw
    rcases S.pair hx hin with hp | ⟨hp,_,_⟩
    · exact pbf_listed S I.closed i hin hpre x (by omega) hp
    · exact absurd ht ((hp t hw).1 d hd)
  have behind:∀ x,i<x→x<ops.size→wrt ds x t→¬ Li listed x:=by
    intro x hx hxn hw hl
    rcases S.pair hx hxn with hp | ⟨_,hp,_⟩
    · exact hni (pbf_listed S I.closed x hxn (fun oj ho m hm=>I.closed x oj ho hl m hm) i hin hp)
    · exact hp t hw d hd ht
  rcases I.env t with ⟨j,j1,j2,j3,j4⟩ | ⟨f,f1,f2,f3,f4,f5⟩
  · rcases Nat.le_total i j with hij | hij
    · have := env_same S T (t := t) j i hij j1 (fun x hx1 hx2 hw => by
        by_cases e:x=i
        · subst e;exact hni (j2 x hx2 hw)
        · exact behind x (by omega) (by obtain ⟨dd,hdd,_⟩:=hw;rw [←S.len];exact (List.getElem?_eq_some_iff.1 hdd).1) hw (j2 x hx2 hw))
      rw [←this];exact j4
    · have:=env_same S T (t:=t) i j hij hi (fun x hx1 hx2 hw=>j3 x hx1 (by omega) hw (before x hx2 hw))
      rw [this];exact j4
  · exfalso
    have hfi:f≠i:=fun e=>hni (e ▸ f4)
    rcases Nat.lt_or_gt_of_ne hfi with hlt | hgt
    ·
      have hpe:=I.pend f f1 f2 f3 f4
      rcases S.pair hlt hin with hp | ⟨hp,_,_⟩
      · have hpf : p < f := by
          rcases hfirst with e | ⟨hpa,hpl⟩
          ·
            exfalso
            cases ho:o with
            | fin=>rw [ho] at e;simp only [reach] at e;omega
            | pan v =>
              have:f≤reach ops ts o:=by omega
              have e2:f=reach ops ts o:=by omega
              exact I.nolast v ho (e2 ▸ f4)
          · have:f≠p:=fun e=>hpl (e ▸ f4)
            omega
        rcases hfirst with e | ⟨hpa,hpl⟩
        · omega
        · have:=S.free hpe.1 hin hp hpf hpa
          exact hpl (pbf_listed S I.closed i hin hpre p (by omega) this)
      · exact absurd ht ((hp t f5).1 d hd)
    · exact behind f hgt f2 f5 f4
end
end Go.AM
namespace Go.AM
set_option linter.unusedVariables false
set_option linter.unusedSimpArgs false
theorem free_run {P : Program} {h : AHeap} {β : Pl} {w : World} {e : Env} {a : Act} {o : Oper} (G : Good P h β w e a.tmps) {ao : AOp} (hcl : opClass ao = .free) (hop : cOp P o.op = some ao) {hx h2 : AHeap} {av : AVal} (he : aop e hx ao = some (av, h2)) :
    ∃ v c ty vs,(execOp a.eval o).run P w=.ok (.value v) (w.alloc (.cells c ty))∧h2=hx.push (.cells 0 false vs)∧vs.length≤c.size∧(∀ h β,vrels h β vs (c.toList.take vs.length)) ∧
      ∀ h3 β3,hx.n<h3.n→h3.gen hx.n=0→β3 hx.n=⟨w.heap.size,0,vs.length⟩→vrel h3 β3 av v:=by
  have hk:(∃ z,ao=.alloc z)∨∃ s b z n,ao=.mkSlice s b z n:=by
    cases ao<;>simp [opClass] at hcl<;>simp
  rcases hk with ⟨z,rfl⟩ | ⟨s,b,z,al,rfl⟩
  · have ho : ∃ t zz, o.op = .alloc t ∧ zeroT P t = some zz ∧ z = zz.cells := by
      cases hoo:o.op<;>rw [hoo] at hop<;>try (simp [cOp,Option.bind_eq_some_iff,Option.map_eq_some_iff] at hop;done)
      case alloc t=>simp only [cOp,Option.map_eq_some_iff] at hop;obtain ⟨zz,h1,h2⟩:=hop;simp only [AOp.alloc.injEq] at h2;exact ⟨t,zz,rfl,h1,h2.symm⟩
      all_goals (exfalso;simp only [cOp] at hop;repeat' (first | (obtain ⟨_,q | q⟩:=cExt_is P hop<;>cases q;done) | (simp [Option.bind_eq_some_iff,Option.map_eq_some_iff] at hop;done) | split at hop | (obtain ⟨_,_,hop⟩:=hop) | (simp only [Option.bind_eq_some_iff,Option.map_eq_some_iff,Prod.exists] at hop;obtain ⟨_,_,hop⟩:=hop) | contradiction | (rename_i heq _ _;cases heq) | (rename_i heq _ _ _ _ _;cases heq) | (simp_all;done)))
    obtain ⟨t,zz,ho,hz,rfl⟩:=ho
    simp only [aop,opMov,opPick,opAlloc,opBox,opBuild,opBuildSlice,opLoad,opStore,opNilCheck,opBin,opEql,opUn,opConv,opB2s,opMkIface,opMkFn,opMkMap,opMkSlice,opSlice,opFieldAddr,opField,opIdxS,opIdxA,opIndex,opIndexStr,opLookup,opMapUpd,opAssertT,opExtract,opLenS,opLenT,opLenM,opMin,opMax,opAppend,opCopy,opDelete,Option.some.injEq,Prod.mk.injEq] at he
    obtain ⟨rfl,rfl⟩:=he
    simp only [zeroT,Option.bind_eq_some_iff] at hz
    obtain ⟨i,hi,zv,hzv,hz⟩:=hz
    have hcells:=fun h β=>(ofZero_vrel hz h β).2.1
    have hl:=vrels_length (hcells h β)
    simp at hl
    refine ⟨.pointer (some ⟨w.heap.size,0,none⟩),zv.cells,t,zz.cells,?_,rfl,by omega,fun h β=>by rw [List.take_of_length_le (by simp;omega)];exact hcells h β,fun h3 β3 h1 h2 h4=>?_⟩
    · unfold execOp;rw [ho];simp only [Instr.alloc,Sem.run_bind,run_zeroValue_of hi hzv,newVar,newRow,run_newObj,Result.andThen_ok,Sem.run_pure];rfl
    · simp only [vrel]
      exact ⟨_,rfl,h1,Nat.zero_le _,fun _=>by rw [h4]⟩
  · have ho : ∃ t l c E, o.op = .makeSlice t l c ∧ sameOpd l c = true ∧ elemT P t = some E ∧ eInfo P E = some (s, b, z) ∧ cOpd P l = some al := by
      cases hoo:o.op<;>rw [hoo] at hop<;>try (simp [cOp,Option.bind_eq_some_iff,Option.map_eq_some_iff] at hop;done)
      case makeSlice t l c =>
        simp only [cOp] at hop
        split at hop
        · rename_i hlc
          simp only [Option.bind_eq_some_iff,Option.map_eq_some_iff,Prod.exists] at hop
          obtain ⟨E,hE,s',b',z',hi,al',hl,heq⟩:=hop
          simp only [AOp.mkSlice.injEq] at heq
          obtain ⟨rfl,rfl,rfl,rfl⟩:=heq
          exact ⟨t,l,c,E,rfl,hlc,hE,hi,hl⟩
        · simp at hop
      all_goals (exfalso;simp only [cOp] at hop;repeat' (first | (obtain ⟨_,q | q⟩:=cExt_is P hop<;>cases q;done) | (simp [Option.bind_eq_some_iff,Option.map_eq_some_iff] at hop;done) | split at hop | (obtain ⟨_,_,hop⟩:=hop) | (simp only [Option.bind_eq_some_iff,Option.map_eq_some_iff,Prod.exists] at hop;obtain ⟨_,_,hop⟩:=hop) | contradiction | (rename_i heq _ _;cases heq) | (rename_i heq _ _ _ _ _;cases heq) | (simp_all;done)))
    obtain ⟨t,l,c,E,ho,hlc,hE,hi,hl⟩:=ho
    have hlc:a.eval l=a.eval c:=by
      unfold sameOpd at hlc
      split at hlc
      · simp only [beq_iff_eq] at hlc;subst hlc;rfl
      · simp only [decide_eq_true_eq] at hlc;obtain ⟨rfl,rfl⟩:=hlc;rfl
      · simp at hlc
    simp only [aop,opMov,opPick,opAlloc,opBox,opBuild,opBuildSlice,opLoad,opStore,opNilCheck,opBin,opEql,opUn,opConv,opB2s,opMkIface,opMkFn,opMkMap,opMkSlice,opSlice,opFieldAddr,opField,opIdxS,opIdxA,opIndex,opIndexStr,opLookup,opMapUpd,opAssertT,opExtract,opLenS,opLenT,opLenM,opMin,opMax,opAppend,opCopy,opDelete] at he
    have rl:=opd_vrel G hl
    split at he
    · rename_i k n hh
      rw [hh] at rl
      simp only [vrel] at rl
      split at he
      · rename_i hc
        obtain ⟨c1,c2,c3⟩:=hc
        simp only [Option.some.injEq,Prod.mk.injEq] at he
        obtain ⟨rfl,rfl⟩:=he
        obtain ⟨zv,hI,_,hzc⟩:=eInfo_of G hi
        have hzv:∀ h β,vrels h β z zv.cells.toList:=by
          intro h' β'
          simp only [eInfo,Option.bind_eq_some_iff] at hi
          obtain ⟨i,hi1,zv',hzv',za,hza,hi⟩:=hi
          split at hi
          · simp only [Option.some.injEq,Prod.mk.injEq] at hi
            obtain ⟨_,_,rfl⟩:=hi
            obtain ⟨i',hti,_,_,hzz⟩:=hI.info
            rw [hi1] at hti;cases hti
            rw [hzv'] at hzz;cases hzz
            exact (ofZero_vrel hza h' β').2.1
          · simp at hi
        have hz:=fun h β=>zeros_vrels (hzv h β) hI.zsize hI.pos (n.toNat*s)
        obtain ⟨i,hti,hsz,hby,hzz⟩:=hI.info
        have hbp:=hI.bpos
        have hsp:=hI.pos
        obtain ⟨m,rfl⟩:=Int.eq_ofNat_of_zero_le c1
        simp only [Int.toNat_natCast] at c2 c3 hz ⊢
        have hm:m≤1099511627776:=Nat.le_trans (Nat.le_mul_of_pos_right m hbp) c2
        have hw:IntKind.i64.wrap (m:Int)=(m:Int):=by simp [IntKind.wrap,IntKind.signed,IntKind.bits];omega
        have hbm:((b:Int)*(m:Int))≤1099511627776:=by
          have h1:b*m≤1099511627776:=by rw [Nat.mul_comm];exact c2
          have h2:((b:Int)*(m:Int))=((b*m:Nat):Int):=by rw [Int.natCast_mul]
          omega
        refine ⟨.slice (some ⟨w.heap.size,0,none⟩) m m,(Array.range (m*s)).map fun i=>zv.cells[i%zv.cells.size]!,E,(List.range (m*s)).map fun i=>z.getD (i%s) .undef,?_,rfl,by simp,fun h β=>?_,fun h3 β3 h1 h2 h4=>?_⟩
        · unfold execOp;rw [ho]
          simp only [Instr.makeSlice,Sem.run_bind,run_underlying_of (elemT_of hE),Result.andThen_ok,rl,←hlc,asInt,asIntOf,Sem.run_pure,run_typeInfo_of hti,hby,hw,run_sizeOf_of hti,hsz,run_askRoom,Int.toNat_natCast]
          rw [if_neg (by simp only [Bool.or_eq_true,decide_eq_true_eq];omega)]
          simp only [Sem.run_bind,run_askRoom,run_sizeOf_of hti,hsz,Result.andThen_ok,Int.toNat_natCast]
          have e5:∀ f:Nat→Value,Array.map f (Array.range 0)=#[]:=by intro f;simp
          by_cases h0:m*s=0
          · simp only [h0,if_true,Sem.run_bind,Sem.run_pure,Result.andThen_ok,run_askRoom,newRow,run_newObj,e5]
            rfl
          · simp only [h0,if_false,Sem.run_bind,Sem.run_pure,Result.andThen_ok,run_askRoom,run_zeroValue_of hti hzz,newRow,run_newObj]
            rfl
        · rw [List.take_of_length_le (by simp)]
          exact hz h β
        · simp only [vrel]
          exact ⟨_,m,rfl,h1,Nat.zero_le _,fun _=>⟨Nat.le_refl _,by rw [h4];simp,fun _=>by rw [h4]⟩⟩
      · simp at he
    · simp at he
end Go.AM
namespace Go.AM
set_option linter.unusedVariables false
set_option linter.unusedSimpArgs false
section
variable {P:Program} {N:Nat} {ops:Array Oper} {ds:List DI} {dis:List DInstr} {r:Rec} {e0:Env} {h0:AHeap} {ts:List TS} {o:TE} {e1:Env} {h1:AHeap} {β0:Pl} {w0:World} {dfs:List Deferred}
 (S:SOk P N ops ds dis) (T:TrOk r dis e0 h0 ts o e1 h1)
variable {bl:Nat→Nat} {listed:Array Bool} {a:Act} {w:World} {p:Nat} {β:Pl}
def First (ops:Array Oper) (ds:List DI) (o:TE) (listed:Array Bool) (p:Nat):Prop:=(o=.fin∧p=ops.size)∨(isA ds p∧¬ Li listed p)
 include S T in
theorem pan_at {v : AVal} (ho : o = .pan v) : ∃ (oj : Oper) (d : DI) (k : DInstr) (t : TS), ops[reach ops ts o]? = some oj ∧ ds[reach ops ts o]? = some d ∧ dis[reach ops ts o]? = some k ∧ ts[reach ops ts o]? = some t ∧ cInstr P N ops oj = some d.i ∧ insClass d.i.op = some d.c ∧
    dkOf ds ds.length (reach ops ts o) d=some k∧k.i=d.i∧wanted t.e d.i.guard=some t.w∧PanOk r k t v h1∧heapAt ts h1 (reach ops ts o)=t.h∧envAt ts e1 (reach ops ts o)=t.e:=by
  obtain ⟨j,k',t,q1,q2,q3,q4⟩:=T.pan v ho
  have hr:reach ops ts o=j:=by rw [ho];simp only [reach];omega
  rw [hr]
  have hjn:j<ops.size:=by
    have:=(List.getElem?_eq_some_iff.1 q2).1
    rw [S.len2] at this;exact this
  obtain ⟨oj,d,k,h1,h2,h3,h4,h5,h6⟩:=S.at hjn
  have hkk:k=k':=Option.some.inj (h6.symm.trans q2)
  subst hkk
  have hki:k.i=d.i:=by
    unfold dkOf at h5
    split at h5<;>(simp only [Option.some.injEq] at h5;subst h5;rfl)
  exact ⟨oj,d,k,t,h1,h2,h6,q3,h3,h4,h5,hki,by rw [←hki];exact T.wt j k t h6 q3,q4,by simp [heapAt,q3],by simp [envAt,q3]⟩
 include S T in
theorem pan_act {v:AVal} (ho:o=.pan v):isA ds (reach ops ts o)∧¬ frA ds (reach ops ts o):=by
  obtain ⟨oj,d,k,t,q1,q2,q3,q4,q5,q6,q7,q8,q9,⟨_,_,f,args,_,_,_,hop,_⟩,_⟩:=pan_at S T ho
  rw [q8] at hop
  rw [hop] at q6
  simp only [insClass,Option.some.injEq] at q6
  refine ⟨⟨d,q2,by rw [←q6];rfl⟩,fun ⟨d',hd',hc⟩=>?_⟩
  rw [q2] at hd';cases hd'
  rw [←q6] at hc;cases hc
 include S in
theorem isA_lt {i:Nat} (h:isA ds i):i<ops.size:=by
  obtain ⟨d,hd,_⟩:=h;rw [←S.len];exact (List.getElem?_eq_some_iff.1 hd).1
theorem frA_isA {i:Nat} (h:frA ds i):isA ds i:=by
 obtain ⟨d,hd,hc⟩:=h;exact ⟨d,hd,by rw [hc];rfl⟩
 include S in
theorem Inv.apart (I : Inv P N ops ds ts o e1 h1 h0 β0 w0 dfs bl listed a w p β) (hfirst : First ops ds o listed p) {i : Nat} (hin : i < ops.size) (hni : ¬ Li listed i)
    (hpre:∀ oi,ops[i]?=some oi→∀ m∈bindsOn oi,Li listed m) {f:Nat} (hpf:p≤f) (hfa:isA ds f) (hfl:Li listed f) :
    (f<i→¬ pbf ds f i)∧∀ t,wrt ds f t→¬ wrt ds i t:=by
  have hfn:=isA_lt S hfa
  have hfi:f≠i:=fun e=>hni (e ▸ hfl)
  have h1:f<i→¬ pbf ds f i:=by
    intro hlt hp
    have hpe:=I.pend f hpf hfn hfa hfl
    rcases hfirst with ⟨_,e⟩ | ⟨hpa,hpl⟩
    · omega
    · have hne:f≠p:=fun e=>hpl (e ▸ hfl)
      have:=S.free hpe.1 hin hp (show p<f by omega) hpa
      exact hpl (pbf_listed S I.closed i hin hpre p (isA_lt S hpa) this)
  refine ⟨h1,fun t hf hi=>?_⟩
  rcases Nat.lt_or_gt_of_ne hfi with hlt | hgt
  · rcases S.pair hlt hin with hp | ⟨hp,_,_⟩
    · exact h1 hlt hp
    · exact (hp t hf).2 hi
  · rcases S.pair hgt hfn with hp | ⟨hp,_,_⟩
    · exact hni (pbf_listed S I.closed f hfn (fun oj ho m hm=>I.closed f oj ho hfl m hm) i hin hp)
    · exact (hp t hi).2 hf
 include S T in
theorem Inv.first (I:Inv P N ops ds ts o e1 h1 h0 β0 w0 dfs bl listed a w p β) (h:p=reach ops ts o∨(isA ds p∧¬ Li listed p)):First ops ds o listed p:=by
  rcases h with h | h
  · cases ho:o with
    | fin=>rw [ho] at h;exact .inl ⟨rfl,h⟩
    | pan v=>right;subst h;exact ⟨(pan_act S T ho).1,I.nolast v ho⟩
  · exact .inr h
 include S T in
theorem Inv.norm (I : Inv P N ops ds ts o e1 h1 h0 β0 w0 dfs bl listed a w p β) (hfirst : First ops ds o listed p) {i : Nat} (hin : i < ops.size) (hni : ¬ Li listed i)
    (hpre:∀ oi,ops[i]?=some oi→∀ m∈bindsOn oi,Li listed m) (hir:i<reach ops ts o) {p':Nat} (hp':(¬ isA ds i∧p'=p)∨(i=p∧isA ds i∧p'=p+1)) {β':Pl} {w':World} {d:DI} (hd:ds[i]?=some d) {tr:TS} (htr:ts[i]?=some tr)
    (R:Rel (heapAt ts h1 p') β' w') (X:Ext (heapAt ts h1 p) β w (heapAt ts h1 p') β' w') {v:Value} (hv:vrel (heapAt ts h1 p') β' tr.v v) (hdN:∀ t,d.i.dst=some t→t<N) :
    Inv P N ops ds ts o e1 h1 h0 β0 w0 dfs bl (listed.setIfInBounds i true) (a.put d.i.dst v) w' p' β':=by
  have hLi:=Li_set (listed:=listed) (i:=i) (by rw [I.sz];exact hin)
  have hstep:envAt ts e1 (i+1)=put tr.e d.i.dst tr.v:=by
    obtain ⟨oj,d',k,t,q1,q2,q3,q4,q5,q6,q7,q8,q9,q10,q11,q12⟩:=step_at S T hir
    rw [hd] at q2;cases q2
    rw [htr] at q4;cases q4
    rw [←q8];exact q12.1
  have hpp:p≤p':=by rcases hp' with ⟨_,rfl⟩ | ⟨_,_,rfl⟩<;>omega
  have hblk : ∀ f, p' ≤ f → isA ds f → Li listed f → ∀ c ty, w.heap[bl f]? = some (.cells c ty (0, 0)) → (∀ id, id < (heapAt ts h1 p).n → ((heapAt ts h1 p).get id).real = true → (β id).b ≠ bl f) →
      w'.heap[bl f]?=some (.cells c ty (0,0))∧∀ id,id<(heapAt ts h1 p').n→((heapAt ts h1 p').get id).real=true→(β' id).b≠bl f:=by
    intro f hf hfa hfl c ty c1 c3
    have hlt:bl f<w.heap.size:=(Array.getElem?_eq_some_iff.1 c1).1
    refine ⟨by rw [X.keep (bl f) hlt fun id hid ho=>c3 id hid (AObj.real_of_own ho)];exact c1,fun id hid hr=>?_⟩
    rcases X.own id hid hr with ⟨x1,x2,x3⟩ | x3
    · rw [x3];exact c3 id x1 x2
    · omega
  have hLf:∀ f,p'≤f→isA ds f→Li (listed.setIfInBounds i true) f→Li listed f∧f≠i:=by
    intro f hf hfa hfl
    have hne:f≠i:=by
      rintro rfl
      rcases hp' with ⟨hna,_⟩ | ⟨rfl,_,rfl⟩
      · exact hna hfa
      · omega
    rcases (hLi f).1 hfl with e | e
    · exact absurd e hne
    · exact ⟨e,hne⟩
  refine { sz:=by simp [I.sz],pL:=?_,acts:=fun j hj ha=>?_,nolast:=fun v' ho hl=>?_,rel:=R,gg:=I.gg.ext X,ext:=I.ext.trans X,closed:=fun j oj hoj hl m hm=>?_,env:=fun t=>?_,pend:=fun f hf hfn hfa hfl=>?_,dist:=fun f g hf hg hfr hgr hfl hgl hft hgt hfa hga hfg=>?_,dfr:=?_,tmps:=?_ }
  · rcases hp' with ⟨_,rfl⟩ | ⟨rfl,_,rfl⟩
    · exact I.pL
    · omega
  · rcases hp' with ⟨_,rfl⟩ | ⟨rfl,_,rfl⟩
    · exact (hLi j).2 (.inr (I.acts j hj ha))
    · by_cases e:j=i
      · exact (hLi j).2 (.inl e)
      · exact (hLi j).2 (.inr (I.acts j (by omega) ha))
  · rcases (hLi _).1 hl with e | e
    · omega
    · exact I.nolast v' ho e
  · rcases (hLi j).1 hl with e | e
    · subst e;exact (hLi m).2 (.inr (hpre oj hoj m hm))
    · exact (hLi m).2 (.inr (I.closed j oj hoj e m hm))
  · by_cases hdt:d.i.dst=some t
    · left
      have hwi:wrt ds i t:=⟨d,hd,hdt⟩
      refine ⟨i+1,by omega,fun x hx hwx=>?_,fun x hx hxn hwx hl=>?_,?_⟩
      · by_cases e:x=i
        · exact (hLi x).2 (.inl e)
        · rcases S.pair (show x<i by omega) hin with hp | ⟨hp,_,_⟩
          · exact (hLi x).2 (.inr (pbf_listed S I.closed i hin hpre x (by omega) hp))
          · exact absurd hwi (hp t hwx).2
      · have hl' : Li listed x := by
          rcases (hLi x).1 hl with e | e
          · omega
          · exact e
        rcases S.pair (show i<x by omega) hxn with hp | ⟨hp,_,_⟩
        · exact hni (pbf_listed S I.closed x hxn (fun oj ho m hm=>I.closed x oj ho hl' m hm) i hin hp)
        · exact (hp t hwi).2 hwx
      · rw [hstep,put_val,if_pos hdt,hdt,put_tmps_same (by have:=I.tmps;have:=hdN t hdt;omega)]
        exact hv
    · have hnw:¬ wrt ds i t:=by rintro ⟨d',hd',hdt'⟩;rw [hd] at hd';cases hd';exact hdt hdt'
      rw [put_tmps hdt]
      rcases I.env t with ⟨j,j1,j2,j3,j4⟩ | ⟨f,f1,f2,f3,f4,f5⟩
      · refine .inl ⟨j,j1,fun x hx hwx=>(hLi x).2 (.inr (j2 x hx hwx)),fun x hx hxn hwx hl=>?_,vrel.mono X.ext j4⟩
        rcases (hLi x).1 hl with e | e
        · subst e;exact hnw hwx
        · exact j3 x hx hxn hwx e
      · refine .inr ⟨f,?_,f2,f3,(hLi f).2 (.inr f4),f5⟩
        rcases hp' with ⟨_,rfl⟩ | ⟨rfl,_,rfl⟩
        · exact f1
        · have:f≠i:=fun e=>hni (e ▸ f4)
          omega
  · obtain ⟨hfl',hfi⟩:=hLf f hf hfa hfl
    have hpe:=I.pend f (by omega) hfn hfa hfl'
    have hap:=I.apart S hfirst hin hni hpre (show p≤f by omega) hfa hfl'
    refine ⟨hpe.1,fun x t hx hxn hwf hwx hl=>?_,fun hfL tr' htr'=>⟨fun htw t hwf=>?_,fun htw=>?_⟩⟩
    · rcases (hLi x).1 hl with e | e
      · subst e;exact hap.2 t hwf hwx
      · exact hpe.2.1 x t hx hxn hwf hwx e
    · rw [put_tmps (by intro e;exact hap.2 t hwf ⟨d,hd,e⟩)]
      exact (hpe.2.2 hfL tr' htr').1 htw t hwf
    · obtain ⟨c,ty,vs,c1,c2,c3,c4,c5,c6,c7⟩:=(hpe.2.2 hfL tr' htr').2 htw
      obtain ⟨b1,b2⟩:=hblk f hf hfa hfl' c ty c1 c3
      refine ⟨c,ty,vs,b1,c2,b2,c4,c5,c6,fun t hwf=>?_⟩
      rw [put_tmps (by intro e;exact hap.2 t hwf ⟨d,hd,e⟩)]
      exact c7 t hwf
  · exact I.dist f g (by omega) (by omega) hfr hgr (hLf f hf hfa hfl).1 (hLf g hg hga hgl).1 hft hgt hfa hga hfg
  · have:∀ (dst:Option Nat) (v:Value),(a.put dst v).defers=a.defers:=by intro dst v;cases dst<;>rfl
    rw [this];exact I.dfr
  · have:∀ (dst:Option Nat) (v:Value),(a.put dst v).tmps.size=a.tmps.size:=by intro dst v;cases dst<;>simp [Act.put]
    rw [this];exact I.tmps
 include S T in
theorem Inv.early (I : Inv P N ops ds ts o e1 h1 h0 β0 w0 dfs bl listed a w p β) (hfirst : First ops ds o listed p) {i : Nat} (hin : i < ops.size) (hni : ¬ Li listed i)
    (hpre:∀ oi,ops[i]?=some oi→∀ m∈bindsOn oi,Li listed m) (hpi:p<i) (hif:frA ds i) (hir:∀ v,o=.pan v→i≠reach ops ts o) {d:DI} (hd:ds[i]?=some d) {w':World} {bl':Nat→Nat} (hb1:bl' i=w.heap.size) (hb2:∀ k,k≠i→bl' k=bl k)
    (hs:w.heap.size≤w'.heap.size) (hw:∀ b,b<w.heap.size→w'.heap[b]?=w.heap[b]?) (hos:w'.os=w.os) (hout:w'.output=w.output) (hfz:∀ a,w'.frozen? a=w.frozen? a) {v:Value} (hdN:∀ t,d.i.dst=some t→t<N)
    (hP:i<reach ops ts o→∀ tr,ts[i]?=some tr→(tr.w=false→v=undef)∧(tr.w=true→∃ c ty vs,w'.heap[w.heap.size]?=some (.cells c ty (0,0))∧heapAt ts h1 (i+1)=(heapAt ts h1 i).push (.cells 0 false vs)∧vs.length≤c.size ∧
      (∀ h β,vrels h β vs (c.toList.take vs.length))∧∀ h2 β2,(heapAt ts h1 i).n<h2.n→h2.gen (heapAt ts h1 i).n=0→β2 (heapAt ts h1 i).n=⟨w.heap.size,0,vs.length⟩→vrel h2 β2 tr.v v)) :
    Inv P N ops ds ts o e1 h1 h0 β0 w0 dfs bl' (listed.setIfInBounds i true) (a.put d.i.dst v) w' p β:=by
  have _:=T.le
  have hLi:=Li_set (listed:=listed) (i:=i) (by rw [I.sz];exact hin)
  obtain ⟨R,X⟩:=I.rel.more hs hw hos hout hfz
  have hia:=frA_isA hif
  refine { sz:=by simp [I.sz],pL:=I.pL,acts:=fun j hj ha=>(hLi j).2 (.inr (I.acts j hj ha)),nolast:=fun v' ho hl=>?_,rel:=R,gg:=I.gg,ext:=I.ext.trans X,closed:=fun j oj hoj hl m hm=>?_,env:=fun t=>?_,pend:=fun f hf hfn hfa hfl=>?_,dist:=fun f g hf hg hfr hgr hfl hgl hft hgt hfa hga hfg=>?_,dfr:=?_,tmps:=?_ }
  · rcases (hLi _).1 hl with e | e
    · exact hir v' ho e.symm
    · exact I.nolast v' ho e
  · rcases (hLi j).1 hl with e | e
    · subst e;exact (hLi m).2 (.inr (hpre oj hoj m hm))
    · exact (hLi m).2 (.inr (I.closed j oj hoj e m hm))
  · by_cases hdt:d.i.dst=some t
    · exact .inr ⟨i,by omega,hin,hia,(hLi i).2 (.inl rfl),⟨d,hd,hdt⟩⟩
    · have hnw:¬ wrt ds i t:=by rintro ⟨d',hd',hdt'⟩;rw [hd] at hd';cases hd';exact hdt hdt'
      rw [put_tmps hdt]
      rcases I.env t with ⟨j,j1,j2,j3,j4⟩ | ⟨f,f1,f2,f3,f4,f5⟩
      · refine .inl ⟨j,j1,fun x hx hwx=>(hLi x).2 (.inr (j2 x hx hwx)),fun x hx hxn hwx hl=>?_,j4⟩
        rcases (hLi x).1 hl with e | e
        · subst e;exact hnw hwx
        · exact j3 x hx hxn hwx e
      · exact .inr ⟨f,f1,f2,f3,(hLi f).2 (.inr f4),f5⟩
  · by_cases e:f=i
    · subst e
      refine ⟨hif,fun x t hx hxn hwf hwx hl=>?_,fun hfL tr htr=>⟨fun htw t hwf=>?_,fun htw=>?_⟩⟩
      · have hl' : Li listed x := by
          rcases (hLi x).1 hl with e | e
          · omega
          · exact e
        rcases S.pair (show f<x by omega) hxn with hp | ⟨hp,_,_⟩
        · exact hni (pbf_listed S I.closed x hxn (fun oj ho m hm=>I.closed x oj ho hl' m hm) f hin hp)
        · exact (hp t hwf).2 hwx
      · obtain ⟨d',hd',hdt⟩:=hwf
        rw [hd] at hd';cases hd'
        rw [hdt,put_tmps_same (by have:=I.tmps;have:=hdN t hdt;omega)]
        exact (hP hfL tr htr).1 htw
      · obtain ⟨c,ty,vs,c1,c4,c5,c6,c7⟩:=(hP hfL tr htr).2 htw
        refine ⟨c,ty,vs,by rw [hb1];exact c1,?_,fun id hid hr=>?_,c4,c5,c6,fun t hwf=>?_⟩
        · rw [hb1];exact I.ext.size
        · rw [hb1]
          have:=(I.rel.obj id hid).lt hr
          omega
        · obtain ⟨d',hd',hdt⟩:=hwf
          rw [hd] at hd';cases hd'
          rw [hdt,put_tmps_same (by have:=I.tmps;have:=hdN t hdt;omega),hb1]
          exact c7
    · have hfl' : Li listed f := by
        rcases (hLi f).1 hfl with e' | e'
        · exact absurd e' e
        · exact e'
      have hpe:=I.pend f hf hfn hfa hfl'
      have hap:=I.apart S hfirst hin hni hpre hf hfa hfl'
      refine ⟨hpe.1,fun x t hx hxn hwf hwx hl=>?_,fun hfL tr' htr'=>⟨fun htw t hwf=>?_,fun htw=>?_⟩⟩
      · rcases (hLi x).1 hl with e | e
        · subst e;exact hap.2 t hwf hwx
        · exact hpe.2.1 x t hx hxn hwf hwx e
      · rw [put_tmps (by intro e;exact hap.2 t hwf ⟨d,hd,e⟩)]
        exact (hpe.2.2 hfL tr' htr').1 htw t hwf
      · obtain ⟨c,ty,vs,c1,c2,c3,c4,c5,c6,c7⟩:=(hpe.2.2 hfL tr' htr').2 htw
        have hlt:bl f<w.heap.size:=(Array.getElem?_eq_some_iff.1 c1).1
        refine ⟨c,ty,vs,by rw [hb2 f e,hw _ hlt];exact c1,by rw [hb2 f e];exact c2,by rw [hb2 f e];exact c3,c4,c5,c6,fun t hwf=>?_⟩
        rw [put_tmps (by intro e;exact hap.2 t hwf ⟨d,hd,e⟩),hb2 f e]
        exact c7 t hwf
  · have hb : ∀ f, p ≤ f → f < reach ops ts o → Li (listed.setIfInBounds i true) f → (∃ t, ts[f]? = some t ∧ t.w = true) → isA ds f → f ≠ i → bl f < w.heap.size := by
      intro f hf hfr hfl ⟨t,ht,htw⟩ hfa hfi
      have hfl':Li listed f:=by
        rcases (hLi f).1 hfl with e' | e'
        · exact absurd e' hfi
        · exact e'
      obtain ⟨c,ty,vs,c1,_⟩:=((I.pend f hf (isA_lt S hfa) hfa hfl').2.2 hfr t ht).2 htw
      exact (Array.getElem?_eq_some_iff.1 c1).1
    by_cases ef:f=i
    · have hgi:g≠i:=fun e=>hfg (by rw [ef,e])
      rw [ef,hb1,hb2 g hgi]
      have:=hb g hg hgr hgl hgt hga hgi
      omega
    · rw [hb2 f ef]
      by_cases eg:g=i
      · rw [eg,hb1]
        have:=hb f hf hfr hfl hft hfa ef
        omega
      · rw [hb2 g eg]
        have l1:Li listed f:=((hLi f).1 hfl).resolve_left ef
        have l2:Li listed g:=((hLi g).1 hgl).resolve_left eg
        exact I.dist f g hf hg hfr hgr l1 l2 hft hgt hfa hga hfg
  · have:∀ (dst:Option Nat) (v:Value),(a.put dst v).defers=a.defers:=by intro dst v;cases dst<;>rfl
    rw [this];exact I.dfr
  · have:∀ (dst:Option Nat) (v:Value),(a.put dst v).tmps.size=a.tmps.size:=by intro dst v;cases dst<;>simp [Act.put]
    rw [this];exact I.tmps
end
end Go.AM
namespace Go.AM
set_option linter.unusedVariables false
set_option linter.unusedSimpArgs false
theorem cInstr_parts {P : Program} {N : Nat} {ops : Array Oper} {o : Oper} {i : AInstr} (h : cInstr P N ops o = some i) :
    i.dst=o.dst∧(∀ t,i.dst=some t→t<N)∧cIOp P o.op=some i.op∧cGuard ops o.guard=some i.guard∧∀ t b,i.guard=some (t,b)→t<N:=by
  simp only [cInstr] at h
  split at h
  · rename_i hcond
    simp only [Option.bind_eq_some_iff] at h
    obtain ⟨ao,hao,ag,hag,h⟩:=h
    split at h
    · rename_i hgc
      simp only [Option.some.injEq] at h
      subst h
      refine ⟨rfl,fun t ht=>?_,hao,hag,fun t b hh=>?_⟩
      · simp only at ht;rw [ht] at hcond;simpa [dstOk] using hcond
      · simp only at hh;rw [hh] at hgc;simpa [dstOk] using hgc
    · simp at h
  · simp at h
theorem wanted_congr {e1 e2:Env} {g:Option (Nat×Bool)} (h:∀ t b,g=some (t,b)→e1.val t=e2.val t):wanted e1 g=wanted e2 g:=by
 cases g with
 | none=>rfl
 | some tb=>obtain ⟨t,b⟩:=tb;simp only [wanted];rw [h t b rfl]
theorem wiped_val:∀ (dis:List DInstr) (e:Env) (t:Nat),(∃ d∈dis,d.i.dst=some t)→(wiped e dis).val t=.undef
  | [],e,t,h=>by obtain ⟨d,hd,_⟩:=h;cases hd
  | d::dis,e,t,h=>by
    by_cases h2:∃ d∈dis,d.i.dst=some t
    · exact wiped_val dis _ t h2
    · obtain ⟨d',hd',hdt⟩:=h
      rcases List.mem_cons.1 hd' with rfl | hd'
      · have : ∀ (dis : List DInstr) (e : Env), (¬ ∃ d ∈ dis, d.i.dst = some t) → (wiped e dis).val t = e.val t := by
          intro dis
          induction dis with
          | nil=>intro e _;rfl
          | cons x xs ih =>
            intro e hx
            show (wiped (put e x.i.dst .undef) xs).val t=_
            rw [ih _ (fun ⟨d,hd,h⟩=>hx ⟨d,List.mem_cons_of_mem _ hd,h⟩),put_val,if_neg (fun h=>hx ⟨x,List.mem_cons_self,h⟩)]
        show (wiped (put e d'.i.dst .undef) dis).val t=_
        rw [this _ _ h2,put_val,if_pos hdt]
      · exact absurd ⟨d',hd',hdt⟩ h2
theorem wiped_val_ne:∀ (dis:List DInstr) (e:Env) (t:Nat),(¬ ∃ d∈dis,d.i.dst=some t)→(wiped e dis).val t=e.val t
 | [],e,t,h=>rfl
 | x::xs,e,t,hx=>by
  show (wiped (put e x.i.dst .undef) xs).val t=_
  rw [wiped_val_ne xs _ t (fun ⟨d,hd,h⟩=>hx ⟨d,List.mem_cons_of_mem _ hd,h⟩),put_val,if_neg (fun h=>hx ⟨x,List.mem_cons_self,h⟩)]
section
variable {P:Program} {N:Nat} {ops:Array Oper} {ds:List DI} {dis:List DInstr} {r:Rec} {e0:Env} {h0:AHeap} {ts:List TS} {o:TE} {e1:Env} {h1:AHeap} {β0:Pl} {w0:World} {dfs:List Deferred}
 (S:SOk P N ops ds dis) (T:TrOk r dis e0 h0 ts o e1 h1)
variable {bl:Nat→Nat} {listed:Array Bool} {a:Act} {w:World} {p:Nat} {β:Pl}
 include S T in
theorem Inv.good (I : Inv P N ops ds ts o e1 h1 h0 β0 w0 dfs bl listed a w p β) (hf : p = reach ops ts o ∨ (isA ds p ∧ ¬ Li listed p)) {i : Nat} (hi : i ≤ reach ops ts o) (hin : i < ops.size) (hni : ¬ Li listed i)
    (hpre:∀ oi,ops[i]?=some oi→∀ m∈bindsOn oi,Li listed m) {d:DI} (hd:ds[i]?=some d):Good P (heapAt ts h1 p) β w (rest (envAt ts e1 i) (insReads d.i)) a.tmps:=by
  refine ⟨I.rel,fun t=>?_,I.gg⟩
  rw [rest_val]
  split
  · rename_i ht
    exact I.operand S T hf hi hin hni hpre hd ht
  · simp [vrel]
theorem wrt_dis (S:SOk P N ops ds dis) {x t:Nat} (h:wrt ds x t):∃ d∈dis,d.i.dst=some t:=by
 obtain ⟨d,hd,hdt⟩:=h
 have hx:x<ops.size:=by rw [←S.len];exact (List.getElem?_eq_some_iff.1 hd).1
 obtain ⟨oj,d',k,h1,h2,h3,h4,h5,h6⟩:=S.at hx
 rw [hd] at h2;cases h2
 refine ⟨k,List.mem_of_getElem? h6,?_⟩
 unfold dkOf at h5
 split at h5<;>(simp only [Option.some.injEq] at h5;subst h5;exact hdt)
 include S T in
theorem Inv.step (SC : SoundCall P r) (RO : readsOk ts h1 dis ts = true) (I : Inv P N ops ds ts o e1 h1 h0 β0 w0 dfs bl listed a w p β) (hf : p = reach ops ts o ∨ (isA ds p ∧ ¬ Li listed p)) {i : Nat} (hi : i ∈ Region.ready .any ops listed)
    {ρ:Option Nat} {K:Act→World→Prop} {Q:Exit→Act→World→Prop} (hK:∀ bl' a' w' p' β',Inv P N ops ds ts o e1 h1 h0 β0 w0 dfs bl' (listed.setIfInBounds i true) a' w' p' β'→K a' w')
    (hQ:∀ v,o=.pan v→∀ ex a' w',Fin P N h0 β0 w0 dfs (.panic v) ⟨wiped e0 dis,h1⟩ ex a' w'→Q ex a' w'):wpOpIn (fen ρ) 0 P ops Q i K a w:=by
  obtain ⟨hin,hni,hpre⟩:=ready_iff I.sz hi
  have hfirst:=I.first S T hf
  have hpos:isA ds i→p≤i:=fun ha=>by
    rcases Nat.lt_or_ge i p with h | h
    · exact absurd (I.acts i h ha) hni
    · exact h
  have hfree:isA ds i→p<i→frA ds i:=fun ha hlt=>by
    rcases hfirst with ⟨_,e⟩ | ⟨hpa,hpl⟩
    · omega
    · rcases S.pair hlt hin with hp | ⟨_,_,hp⟩
      · exact absurd (pbf_listed S I.closed i hin hpre p (by omega) hp) hpl
      · exact hp hpa ha
  unfold wpOpIn
  rcases Nat.lt_trichotomy i (reach ops ts o) with hir | hir | hir
  ·
    obtain ⟨oj,d,k,tr,q1,q2,q3,q4,q5,q6,q7,q8,q9,q10,q11,q12⟩:=step_at S T hir
    obtain ⟨c1,c2,c3,c4,c5⟩:=cInstr_parts q5
    have hnd:=cIOp_nd c3
    rw [q1]
    simp only
    have G:=I.good S T hf (Nat.le_of_lt hir) hin hni hpre q2
    have hval:∀ t,t∈insReads d.i→(rest (envAt ts e1 i) (insReads d.i)).val t=tr.e.val t:=fun t ht=>by rw [rest_val,if_pos ht,q9]
    have hw:wanted (rest (envAt ts e1 i) (insReads d.i)) d.i.guard=some tr.w:=by
      rw [wanted_congr (e2:=tr.e) fun t b hg=>hval t (by simp only [insReads,hg];simp)];exact q11
    have hwd:=wanted_of G c4 I.tmps c5 hw rfl
    have hopr:∀ ao,d.i.op=.op ao→∀ hx,aop (rest (envAt ts e1 i) (insReads d.i)) hx ao=aop tr.e hx ao:=fun ao hao hx =>
      aop_congr (fun t ht=>hval t (by simp only [insReads,hao];simp [ht])) hx
    cases htw:tr.w with
    | false =>
      rw [if_neg (by rw [hwd,htw];simp)]
      obtain ⟨hv0,hh0⟩:=q12.2.1 htw
      have hvr:∀ h β,vrel h β tr.v undef:=fun h β=>by rw [hv0];simp [vrel,vrels,undef]
      rw [←c1]
      refine ⟨fun _ _=>trivial,?_⟩
      by_cases ha:isA ds i
      · rcases Nat.eq_or_lt_of_le (hpos ha) with e | hlt
        · subst e
          have e2:heapAt ts h1 (p+1)=heapAt ts h1 p:=by rw [hh0,q10]
          exact hK _ _ _ _ _ (I.norm S T hfirst hin hni hpre hir (.inr ⟨rfl,ha,rfl⟩) q2 q4 (by rw [e2];exact I.rel) (by rw [e2];exact Ext.refl _ _ _) (hvr _ _) c2)
        · exact hK (fun k => if k = i then w.heap.size else bl k) _ _ _ _ (I.early S T hfirst hin hni hpre hlt (hfree ha hlt) (fun v ho => by omega) q2 (by simp) (fun k hk => by simp [hk]) (Nat.le_refl _) (fun _ _ => rfl) rfl rfl (fun _ => rfl) c2 (fun _ tr' htr' => by
            rw [q4] at htr';cases htr'
            exact ⟨fun _=>rfl,fun h=>by rw [htw] at h;cases h⟩))
      · exact hK _ _ _ _ _ (I.norm S T hfirst hin hni hpre hir (.inl ⟨ha,rfl⟩) q2 q4 I.rel (Ext.refl _ _ _) (hvr _ _) c2)
    | true =>
      rw [if_pos (by rw [hwd,htw])]
      have hst:=q12.2.2 htw
      have plain:∀ ao,d.i.op=.op ao→∀ p',((¬ isA ds i∧p'=p)∨(i=p∧isA ds i∧p'=p+1))→aop tr.e (heapAt ts h1 p) ao=some (tr.v,heapAt ts h1 p')→oj.wpIn (fen ρ) 0 P a w K Q:=by
        intro ao hao p' hp' he
        rw [←hopr ao hao] at he
        rw [hao] at c3
        obtain ⟨w1,β1,hrun,R1,X1⟩:=sim_op G (cOp_plain c3) he
        rcases hrun with ⟨v,hrun,hv⟩ | ⟨hrun,hav⟩
        · refine wpIn_of_run hnd hrun ?_
          rw [Oper.uponIn_value,←c1]
          exact hK _ _ _ _ _ (I.norm S T hfirst hin hni hpre hir hp' q2 q4 R1 X1 hv c2)
        · refine wpIn_of_run hnd hrun ?_
          rw [Oper.uponIn_skip,←c1]
          exact hK _ _ _ _ _ (I.norm S T hfirst hin hni hpre hir hp' q2 q4 R1 X1 (by rw [hav];simp [vrel]) c2)
      have hact:d.c.isAct=true→isA ds i:=fun h=>⟨d,q2,h⟩
      have hnact:d.c.isAct=false→¬ isA ds i:=fun h ⟨d',hd',hc⟩=>by rw [q2] at hd';cases hd';rw [h] at hc;cases hc
      unfold dkOf at q7
      cases hc:d.c with
      | pure =>
        rw [hc] at q7;simp only [Option.some.injEq] at q7;subst q7
        rw [hc] at q6
        simp only at hst
        split at hst
        · rename_i h1' _;cases h1'
        · rename_i h1' _;cases h1'
        · rename_i ao h1' hop
          obtain ⟨e2,h',he⟩:=hst
          rw [hop] at q6
          simp only [insClass,Option.some.injEq] at q6
          exact plain ao hop p (.inl ⟨hnact (by rw [hc];rfl),rfl⟩) (aop_pure q6 he _).2
        · rename_i h1' hop;cases h1'
        · exact hst.elim
      | read =>
        rw [hc] at q7;simp only [Option.some.injEq] at q7;subst q7
        rw [hc] at q6
        simp only at hst
        split at hst
        · rename_i h1' _;cases h1'
        · rename_i h1' _;cases h1'
        · rename_i h1' hop;cases h1'
        · rename_i qs ao h1' hop
          obtain ⟨e2,h',he⟩:=hst
          rw [hop] at q6
          simp only [insClass,Option.some.injEq] at q6
          have hna:=hnact (by rw [hc];rfl)
          by_cases hq:p∈placesQ ds ds.length i d.pre
          · have hro:=readsOk_at RO i _ _ q3 q4
            simp only [readOk,hop,htw,Bool.not_true,Bool.false_or,List.all_eq_true] at hro
            have hro:=hro p hq
            simp only [Bool.or_eq_true,decide_eq_true_eq] at hro
            have hpl:p≤ts.length:=by
              have:=I.pL
              cases ho:o with
              | fin=>rw [ho] at this;simp only [reach] at this;rw [T.fin ho,S.len2];exact this
              | pan v=>rw [ho] at this;simp only [reach] at this;omega
            rcases hro with hro | hro
            · omega
            · obtain ⟨h2,he2⟩:=same_eq hro
              have:=aop_read q6 he2
              subst this
              exact plain ao hop p (.inl ⟨hna,rfl⟩) he2
          ·
            have hms:mayStand ds ds.length i d.pre p=true:=by
              simp only [mayStand,Bool.and_eq_true,Bool.or_eq_true,beq_iff_eq,Option.any_eq_true,List.all_eq_true,List.mem_range,Option.all_eq_true,Bool.not_eq_true',decide_eq_true_eq,Bool.and_eq_false_iff,decide_eq_false_iff_not]
              refine ⟨?_,fun c hcn dc hdc=>?_⟩
              · rcases hfirst with ⟨_,e⟩ | ⟨⟨dp,hdp,hdpa⟩,_⟩
                · left;rw [e,S.len]
                · right;exact ⟨dp,hdp,hdpa⟩
              · by_cases hca:dc.c.isAct=true
                · right
                  have hcA:isA ds c:=⟨dc,hdc,hca⟩
                  refine ⟨?_,?_⟩
                  · by_cases hb:bitOf d.pre c=true
                    · right
                      have hcl:=pbf_listed S I.closed i hin hpre c (isA_lt S hcA) ⟨d,q2,hb⟩
                      rcases Nat.lt_or_ge c p with h | h
                      · exact h
                      · exfalso
                        rcases hfirst with ⟨_,e⟩ | ⟨hpa,hpl⟩
                        · have:=isA_lt S hcA;omega
                        · have hne:c≠p:=fun e=>hpl (e ▸ hcl)
                          have:=S.free (I.pend c h (isA_lt S hcA) hcA hcl).1 hin ⟨d,q2,hb⟩ (show p<c by omega) hpa
                          exact hpl (pbf_listed S I.closed i hin hpre p (isA_lt S hpa) this)
                    · left;simpa using hb
                  · by_cases hic:i<c∧c<p
                    · right
                      have hcl:=I.acts c hic.2 hcA
                      cases hb:bitOf dc.pre i with
                      | false=>rfl
                      | true=>exact absurd (pbf_listed S I.closed c (isA_lt S hcA) (fun oj ho m hm=>I.closed c oj ho hcl m hm) i hin ⟨dc,hdc,hb⟩) hni
                    · left
                      by_cases h1:i<c
                      · right;exact fun h=>hic ⟨h1,h⟩
                      · left;exact h1
                · left;simpa using hca
            have hahead:actsAhead ds p=actsAhead ds i:=by
              simp only [placesQ,List.mem_filter,List.mem_range,Bool.and_eq_true,bne_iff_ne,ne_eq] at hq
              have hpn:p<ds.length+1:=by
                have:=I.pL
                rw [S.len]
                cases ho:o with
                | fin=>rw [ho] at this;simp only [reach] at this;omega
                | pan v =>
                  rw [ho] at this;simp only [reach] at this
                  have:=T.le;rw [S.len2] at this;omega
              by_cases e:actsAhead ds p=actsAhead ds i
              · exact e
              · exact absurd ⟨hpn,hms,e⟩ hq
            have hheap:heapAt ts h1 p=heapAt ts h1 i:=by
              rcases Nat.le_total i p with h | h
              · exact heap_same S T p i h I.pL fun x hx1 hx2 hx=>by have:=actsAhead_lt hx1 hx2 hx;omega
              · exact (heap_same S T i p h (Nat.le_of_lt hir) fun x hx1 hx2 hx=>by have:=actsAhead_lt hx1 hx2 hx;omega).symm
            have:=aop_read q6 he
            subst this
            refine plain ao hop p (.inl ⟨hna,rfl⟩) ?_
            rw [hheap,q10];exact he
        · exact hst.elim
      | act =>
        rw [hc] at q7;simp only [Option.some.injEq] at q7;subst q7
        have ha:=hact (by rw [hc];rfl)
        have hip:i=p:=by
          rcases Nat.eq_or_lt_of_le (hpos ha) with e | hlt
          · exact e.symm
          · obtain ⟨d',hd',hc'⟩:=hfree ha hlt
            rw [q2] at hd';cases hd';rw [hc] at hc';cases hc'
        subst hip
        simp only at hst
        split at hst
        · rename_i l ao h1' hop
          exact plain ao hop (i+1) (.inr ⟨rfl,ha,rfl⟩) (by rw [q10];exact hst)
        · rename_i l f args h1' hop
          obtain ⟨g,first,captured,hfv,hcl⟩:=hst
          rw [hop] at c3
          obtain ⟨c,ef,hopc,hcal,hef,hargs⟩:=cOp_call c3
          have hf2:opd (rest (envAt ts e1 i) (insReads d.i)) f=opd tr.e f:=opd_congr fun t ht=>hval t (by simp only [insReads,hop];simp [ht])
          have ha2:args.map (opd (rest (envAt ts e1 i) (insReads d.i)))=args.map (opd tr.e):=map_opd_congr fun t ht=>hval t (by simp only [insReads,hop];exact List.mem_append_left _ (List.mem_append_right _ ht))
          have rf:=opd_vrel G hef
          rw [hf2,hfv] at rf
          simp only [vrel] at rf
          obtain ⟨fv,cv,efv,rfirst,rcap⟩:=rf
          have rargs:=opds_vrels G hargs
          rw [ha2] at rargs
          have hall:vrels (heapAt ts h1 i) β (first++args.map (opd tr.e)++captured) (fv++c.args.map a.eval++cv).toList:=by
            simp only [Array.toList_append,Array.toList_map]
            exact vrels_append (vrels_append rfirst rargs) rcap
          rw [←q10] at hcl
          obtain ⟨⟨fn,q1',q2',q3'⟩,hsc⟩:=SC.2 _ _ _ _ _ hcl
          have hexec:(execOp a.eval oj).run P w=.ok (.enter g (fv++c.args.map a.eval++cv)) w:=by
            unfold execOp;rw [hopc]
            simp only [resolve,hcal,efv,Deferred.ofValue,Sem.run_bind,Sem.run_pure,Result.andThen_ok,invoke,run_callFunc_of q1' q2' q3']
          refine wpIn_of_run hnd hexec ?_
          rw [Oper.uponIn_enter]
          refine enterIn_of ((hsc β w _ G.rel G.g hall).mono ?_)
          rintro e w1 ⟨β1,R1,X1,hres⟩
          obtain ⟨v',rfl,hv⟩:=hres
          simp only
          rw [←c1]
          exact hK _ _ _ _ _ (I.norm S T hfirst hin hni hpre hir (.inr ⟨rfl,ha,rfl⟩) q2 q4 R1 X1 hv c2)
        · rename_i h1' _;cases h1'
        · rename_i h1' _;cases h1'
        · exact hst.elim
      | free =>
        rw [hc] at q7;simp only [Option.some.injEq] at q7;subst q7
        have ha:=hact (by rw [hc];rfl)
        rw [hc] at q6
        simp only at hst
        split at hst
        · rename_i l ao h1' hop
          rcases Nat.eq_or_lt_of_le (hpos ha) with e | hlt
          · subst e
            exact plain ao hop (p+1) (.inr ⟨rfl,ha,rfl⟩) (by rw [q10];exact hst)
          · rw [hop] at q6 c3
            simp only [insClass,Option.some.injEq] at q6
            rw [←hopr ao hop] at hst
            obtain ⟨v,c,ty,vs,hrun,f1,f2,f3,f4⟩:=free_run G q6 (cOp_plain c3) hst
            refine wpIn_of_run hnd hrun ?_
            rw [Oper.uponIn_value,←c1]
            refine hK (fun k=>if k=i then w.heap.size else bl k) _ _ _ _ (I.early (bl':=fun k=>if k=i then w.heap.size else bl k) (w':=w.alloc (.cells c ty)) S T hfirst hin hni hpre hlt (hfree ha hlt) (fun v ho=>by omega) q2 (by simp) (fun k hk=>by simp [hk]) (by simp) (fun b hb=>by simp only [World.alloc,Array.getElem?_push];rw [if_neg (by omega)]) rfl rfl (frozen_alloc_cells w _ _) c2 (fun _ tr' htr'=>?_))
            rw [q4] at htr';cases htr'
            refine ⟨(fun h=>by rw [htw] at h;cases h),fun _=>⟨c,ty,vs,by show (w.heap.push _)[w.heap.size]?=_;simp,by rw [q10];exact f1,f2,f3,?_⟩⟩
            rw [q10];exact f4
        · rename_i l f args h1' hop
          rw [hop] at q6
          simp only [insClass,Option.some.injEq] at q6
          cases q6
        · rename_i h1' _;cases h1'
        · rename_i h1' _;cases h1'
        · exact hst.elim
  ·
    have hpan:∃ v,o=.pan v:=by
      cases ho:o with
      | fin=>rw [ho] at hir;simp only [reach] at hir;omega
      | pan v=>exact ⟨v,rfl⟩
    obtain ⟨v,ho⟩:=hpan
    obtain ⟨pa,pnf⟩:=pan_act S T ho
    rw [←hir] at pa pnf
    have hip:i=p:=by
      rcases Nat.eq_or_lt_of_le (hpos pa) with e | hlt
      · exact e.symm
      · exact absurd (hfree pa hlt) pnf
    obtain ⟨oj,d,k,tr,q1,q2,q3,q4,q5,q6,q7,q8,q9,hpk,q11,q12⟩:=pan_at S T ho
    rw [←hir] at q1 q2 q3 q4 q7 q11 q12
    subst hip
    obtain ⟨c1,c2,c3,c4,c5⟩:=cInstr_parts q5
    have hnd:=cIOp_nd c3
    rw [q1]
    simp only
    have G:=I.good S T hf (Nat.le_of_eq hir) hin hni hpre q2
    have hval:∀ t,t∈insReads d.i→(rest (envAt ts e1 i) (insReads d.i)).val t=tr.e.val t:=fun t ht=>by rw [rest_val,if_pos ht,q12]
    have hw:wanted (rest (envAt ts e1 i) (insReads d.i)) d.i.guard=some tr.w:=by
      rw [wanted_congr (e2:=tr.e) fun t b hg=>hval t (by simp only [insReads,hg];simp)];exact q9
    have hwd:=wanted_of G c4 I.tmps c5 hw rfl
    obtain ⟨htw,hk,f,args,g,first,captured,hop,hfv,hcl⟩:=hpk
    rw [q8] at hop
    rw [if_pos (by rw [hwd,htw])]
    rw [hop] at c3
    obtain ⟨c,ef,hopc,hcal,hef,hargs⟩:=cOp_call c3
    have hf2:opd (rest (envAt ts e1 i) (insReads d.i)) f=opd tr.e f:=opd_congr fun t ht=>hval t (by simp only [insReads,hop];simp [ht])
    have ha2:args.map (opd (rest (envAt ts e1 i) (insReads d.i)))=args.map (opd tr.e):=map_opd_congr fun t ht=>hval t (by simp only [insReads,hop];exact List.mem_append_left _ (List.mem_append_right _ ht))
    have rf:=opd_vrel G hef
    rw [hf2,hfv] at rf
    simp only [vrel] at rf
    obtain ⟨fv,cv,efv,rfirst,rcap⟩:=rf
    have rargs:=opds_vrels G hargs
    rw [ha2] at rargs
    have hall:vrels (heapAt ts h1 i) β (first++args.map (opd tr.e)++captured) (fv++c.args.map a.eval++cv).toList:=by
      simp only [Array.toList_append,Array.toList_map]
      exact vrels_append (vrels_append rfirst rargs) rcap
    rw [←q11] at hcl
    obtain ⟨⟨fn,q1',q2',q3'⟩,hsc⟩:=SC.2 _ _ _ _ _ hcl
    have hexec:(execOp a.eval oj).run P w=.ok (.enter g (fv++c.args.map a.eval++cv)) w:=by
      unfold execOp;rw [hopc]
      simp only [resolve,hcal,efv,Deferred.ofValue,Sem.run_bind,Sem.run_pure,Result.andThen_ok,invoke,run_callFunc_of q1' q2' q3']
    refine wpIn_of_run hnd hexec ?_
    rw [Oper.uponIn_enter]
    refine enterIn_of ((hsc β w _ G.rel G.g hall).mono ?_)
    rintro e w1 ⟨β1,R1,X1,hres⟩
    obtain ⟨v',rfl,hv⟩:=hres
    refine hQ v ho _ _ _ ⟨β1,⟨R1,fun t=>?_,?_⟩,I.ext.trans X1,I.dfr,I.tmps,v',rfl,hv⟩
    · by_cases hwt:∃ d∈dis,d.i.dst=some t
      · rw [wiped_val dis e0 t hwt];simp [vrel]
      · rw [wiped_val_ne dis e0 t hwt]
        rcases I.env t with ⟨j,j1,j2,j3,j4⟩ | ⟨f,f1,f2,f3,f4,f5⟩
        · have:=env_same S T (t:=t) j 0 (Nat.zero_le _) j1 (fun x _ _ hx=>hwt (wrt_dis S hx))
          rw [T.e0] at this
          rw [←this]
          exact vrel.mono X1.ext j4
        · exact absurd (wrt_dis S f5) hwt
    · simp only;exact I.gg.ext X1
  ·
    have hpan:∃ v,o=.pan v:=by
      cases ho:o with
      | fin=>rw [ho] at hir;simp only [reach] at hir;omega
      | pan v=>exact ⟨v,rfl⟩
    obtain ⟨v,ho⟩:=hpan
    obtain ⟨od,dd,kk,tt,p1,p2,p3,p4,p5,p6,p7,p8,p9,hpk,p11,p12⟩:=pan_at S T ho
    obtain ⟨oj,d,k,q1,q2,q5,q6,q7,q8⟩:=S.at hin
    have hlast:lastOf ds ds.length (reach ops ts o)=true:=by
      have hk:=hpk.2.1
      unfold dkOf at p7
      split at p7
      · simp only [Option.some.injEq] at p7;subst p7;simp at hk
      · simp only [Option.some.injEq] at p7;subst p7;simp at hk
      · simp only [Option.some.injEq] at p7;subst p7;simpa using hk
    simp only [lastOf,List.all_eq_true,List.mem_range,Option.all_eq_true,Bool.or_eq_true,Bool.not_eq_true',decide_eq_false_iff_not] at hlast
    have hb:=hlast i (by rw [S.len];exact hin) d q2
    have hbare:bareAlloc d=true:=by
      rcases hb with (hb | hb) | hb
      · exact absurd hir hb
      · exact absurd (pbf_listed S I.closed i hin hpre (reach ops ts o) (by omega) ⟨d,q2,hb⟩) (I.nolast v ho)
      · exact hb
    unfold bareAlloc at hbare
    split at hbare
    · rename_i z hop hg
      obtain ⟨c1,c2,c3,c4,c5⟩:=cInstr_parts q5
      have hnd:=cIOp_nd c3
      rw [hop] at c3 q6
      simp only [insClass,opClass,Option.some.injEq] at q6
      have hfr:frA ds i:=⟨d,q2,q6.symm⟩
      have hpL:=I.pL
      rw [q1]
      simp only
      have G:Good P (heapAt ts h1 p) β w (.nil:Env) a.tmps:=⟨I.rel,fun t=>by
        have:Env.val Tr.nil t=.undef:=rfl
        rw [this];simp [vrel],I.gg⟩
      have hwd:=wanted_of G c4 I.tmps c5 (b:=true) (by rw [hg];rfl) rfl
      rw [if_pos hwd]
      obtain ⟨v1,c,ty,vs,hrun,f1,f2,f3,f4⟩:=free_run G (hx:=heapAt ts h1 p) (ao:=.alloc z) rfl (cOp_plain c3) rfl
      refine wpIn_of_run hnd hrun ?_
      rw [Oper.uponIn_value,←c1]
      exact hK (fun k=>if k=i then w.heap.size else bl k) _ _ _ _ (I.early (bl':=fun k=>if k=i then w.heap.size else bl k) (w':=w.alloc (.cells c ty)) S T hfirst hin hni hpre (by omega) hfr (fun v ho=>by omega) q2 (by simp) (fun k hk=>by simp [hk]) (by simp) (fun b hb=>by simp only [World.alloc,Array.getElem?_push];rw [if_neg (by omega)]) rfl rfl (frozen_alloc_cells w _ _) c2 (fun h=>by omega))
    · cases hbare
end
end Go.AM
namespace Go.AM
set_option linter.unusedVariables false
set_option linter.unusedSimpArgs false
theorem perm_get {σ:List Nat} {ops:Array Oper} (k:Nat):(permOps σ ops)[k]?=(σ[k]?).map fun i=>remap σ ((ops[i]?).getD default):=by
 simp [permOps]
theorem permOk_of {σ:List Nat} {n:Nat} (h:permOk σ n=true):σ.length=n∧σ.Nodup∧(∀ i∈σ,i<n)∧∀ i,i<n→i∈σ:=by
 simp only [permOk,Bool.and_eq_true,decide_eq_true_eq,List.all_eq_true,List.mem_range,List.contains_iff_mem] at h
 obtain ⟨⟨⟨h1,h2⟩,h3⟩,h4⟩:=h
 exact ⟨h1,h2,h3,h4⟩
section
variable {P:Program} {ρ:Option Nat} {ops:Array Oper} {σ:List Nat} {Q:Exit→Act→World→Prop} (hσ:permOk σ ops.size=true)
include hσ
theorem perm_size:(permOps σ ops).size=ops.size:=by
 obtain ⟨h1,_⟩:=permOk_of hσ
 simp [permOps,h1]
theorem perm_idx {k i:Nat} (hk:σ[k]?=some i):σ.idxOf i=k:=by
 obtain ⟨h1,h2,_⟩:=permOk_of hσ
 have hkl:k<σ.length:=(List.getElem?_eq_some_iff.1 hk).1
 have hi:=(List.getElem?_eq_some_iff.1 hk).2
 rw [←hi]
 exact h2.idxOf_getElem k hkl
theorem perm_yield (tmps:Array Value) (j:Nat):yielded (permOps σ ops) tmps (σ.idxOf j)=yielded ops tmps j:=by
 obtain ⟨h1,h2,h3,h4⟩:=permOk_of hσ
 unfold yielded
 by_cases hj:j<ops.size
 ·have hm:=h4 j hj
  have hk:σ[σ.idxOf j]?=some j:=by
   have hl:=List.idxOf_lt_length_of_mem hm
   rw [List.getElem?_eq_getElem hl,List.getElem_idxOf]
  rw [perm_get,hk,Option.map_some,Array.getElem?_eq_getElem hj]
  rfl
 ·have hn:j ∉ σ:=fun h=>hj (h3 j h)
  have:σ.idxOf j=σ.length:=List.idxOf_eq_length hn
  rw [this,perm_get,List.getElem?_eq_none (Nat.le_refl _),Array.getElem?_eq_none (by omega)]
  rfl
theorem perm_wanted (o:Oper) (tmps:Array Value):Region.wanted (remap σ o) (yielded (permOps σ ops) tmps)=Region.wanted o (yielded ops tmps):=by
 unfold Region.wanted remap
 cases hg:o.guard with
 | none=>simp
 | some jb =>
  obtain ⟨j,b⟩:=jb
  simp only [Option.map_some]
  rw [perm_yield hσ]
theorem perm_op {k i:Nat} (hk:σ[k]?=some i) {K:Act→World→Prop} {a:Act} {w:World} (h:wpOpIn (fen ρ) 0 P (permOps σ ops) Q k K a w):wpOpIn (fen ρ) 0 P ops Q i K a w:=by
 obtain ⟨h1,h2,h3,h4⟩:=permOk_of hσ
 have hi:i<ops.size:=h3 i (List.mem_of_getElem? hk)
 unfold wpOpIn at h ⊢
 rw [perm_get,hk,Option.map_some,Array.getElem?_eq_getElem hi] at h
 rw [Array.getElem?_eq_getElem hi]
 simp only [Option.getD_some] at h ⊢
 rw [perm_wanted hσ] at h
 exact h
def LR (σ:List Nat) (n:Nat) (listed listed':Array Bool):Prop:=listed.size=n∧listed'.size=n∧∀ k i,σ[k]?=some i→listed'.getD k false=listed.getD i false
theorem perm_ready {listed listed':Array Bool} (h:LR σ ops.size listed listed') {k i:Nat} (hk:σ[k]?=some i):i∈Region.ready .any ops listed↔k∈Region.ready .any (permOps σ ops) listed':=by
 obtain ⟨h1,h2,h3,h4⟩:=permOk_of hσ
 obtain ⟨l1,l2,l3⟩:=h
 have hi:i<ops.size:=h3 i (List.mem_of_getElem? hk)
 have hkl:k<ops.size:=by rw [←h1];exact (List.getElem?_eq_some_iff.1 hk).1
 have hedge:∀ j,listed'.getD (σ.idxOf j) false=listed.getD j false:=by
  intro j
  by_cases hj:j<ops.size
  ·have hm:=h4 j hj
   refine l3 _ _ ?_
   have hl:=List.idxOf_lt_length_of_mem hm
   rw [List.getElem?_eq_getElem hl,List.getElem_idxOf]
  ·have hn:j ∉ σ:=fun h=>hj (h3 j h)
   have:σ.idxOf j=σ.length:=List.idxOf_eq_length hn
   rw [this]
   simp only [Array.getD_eq_getD_getElem?]
   rw [Array.getElem?_eq_none (by omega),Array.getElem?_eq_none (by omega)]
 have hself:listed'.getD k true=listed.getD i true:=by
  have:=l3 k i hk
  simp only [Array.getD_eq_getD_getElem?,Array.getElem?_eq_getElem (show k<listed'.size by omega),Array.getElem?_eq_getElem (show i<listed.size by omega),Option.getD_some] at this ⊢
  exact this
 simp only [Region.ready,List.mem_filter,List.mem_range,perm_size hσ,hi,hkl,true_and,hself,perm_get,hk,Option.map_some,Array.getElem?_eq_getElem hi,Option.getD_some,Bool.and_eq_true]
 refine and_congr_right fun _=>?_
 simp only [remap,Array.all_eq_true',Array.mem_map]
 constructor
 ·rintro h e ⟨e',he',rfl⟩
  have:=h e' he'
  simp only [hedge]
  exact this
 ·intro h e he
  have:=h { e with on:=σ.idxOf e.on } ⟨e,he,rfl⟩
  simp only [hedge] at this
  exact this
theorem LR.set {listed listed':Array Bool} (h:LR σ ops.size listed listed') {k i:Nat} (hk:σ[k]?=some i):LR σ ops.size (listed.setIfInBounds i true) (listed'.setIfInBounds k true):=by
 obtain ⟨h1,h2,h3,h4⟩:=permOk_of hσ
 obtain ⟨l1,l2,l3⟩:=h
 refine ⟨by simp [l1],by simp [l2],fun k' i' hk'=>?_⟩
 have hkl:k<ops.size:=by rw [←h1];exact (List.getElem?_eq_some_iff.1 hk).1
 have hi:i<ops.size:=h3 i (List.mem_of_getElem? hk)
 have hiff:k=k'↔i=i':=by
  constructor
  ·rintro rfl;rw [hk] at hk';exact Option.some.inj hk'
  ·rintro rfl;rw [←perm_idx hσ hk,←perm_idx hσ hk']
 have:=l3 k' i' hk'
 simp only [Array.getD_eq_getD_getElem?,Array.getElem?_setIfInBounds] at this ⊢
 by_cases e:k=k'
 ·rw [if_pos e,if_pos (hiff.1 e),if_pos (by omega),if_pos (by omega)]
 ·rw [if_neg e,if_neg (fun h=>e (hiff.2 h))];exact this
theorem perm_any:∀ (fuel:Nat) (listed listed':Array Bool) (a:Act) (w:World),LR σ ops.size listed listed'→wpAnyIn (fen ρ) 0 P .any (permOps σ ops) Q fuel listed' a w→wpAnyIn (fen ρ) 0 P .any ops Q fuel listed a w:=by
 obtain ⟨h1,h2,h3,h4⟩:=permOk_of hσ
 have nil:∀ (listed listed':Array Bool),LR σ ops.size listed listed'→(Region.ready .any ops listed=[]↔Region.ready .any (permOps σ ops) listed'=[]):=by
  intro listed listed' h
  simp only [List.eq_nil_iff_forall_not_mem]
  constructor
  ·intro hn k hk
   have hkl:k<σ.length:=by
    have:k<(permOps σ ops).size:=by
     simp only [Region.ready,List.mem_filter,List.mem_range] at hk
     exact hk.1
    rw [perm_size hσ] at this;omega
   exact hn σ[k] ((perm_ready hσ h (List.getElem?_eq_getElem hkl)).2 hk)
  ·intro hn i hi
   have hil:i<ops.size:=by
    simp only [Region.ready,List.mem_filter,List.mem_range] at hi
    exact hi.1
   have hm:=h4 i hil
   have hl:=List.idxOf_lt_length_of_mem hm
   have hk:σ[σ.idxOf i]?=some i:=by rw [List.getElem?_eq_getElem hl,List.getElem_idxOf]
   exact hn _ ((perm_ready hσ h hk).1 hi)
 intro fuel
 induction fuel with
 | zero=>intro listed listed' a w h hw;exact ⟨(nil _ _ h).2 hw.1,hw.2⟩
 | succ fuel ih =>
  intro listed listed' a w h hw
  refine ⟨fun hr=>hw.1 ((nil _ _ h).1 hr),fun i hi=>?_⟩
  have hil:i<ops.size:=by
   simp only [Region.ready,List.mem_filter,List.mem_range] at hi
   exact hi.1
  have hm:=h4 i hil
  have hl:=List.idxOf_lt_length_of_mem hm
  have hk:σ[σ.idxOf i]?=some i:=by rw [List.getElem?_eq_getElem hl,List.getElem_idxOf]
  have:=hw.2 _ ((perm_ready hσ h hk).1 hi)
  exact wpOpIn_mono (fun a w hh=>ih _ _ a w (h.set hσ hk) hh) (perm_op hσ hk this)
end
end Go.AM
namespace Go.AM
set_option linter.unusedVariables false
set_option linter.unusedSimpArgs false
def left (n:Nat) (listed:Array Bool):Nat:=((List.range n).filter fun i=>!listed.getD i false).length
theorem left_set {n:Nat} {listed:Array Bool} (hs:listed.size=n) {i:Nat} (hi:i<n) (hl:¬ Li listed i):left n (listed.setIfInBounds i true)<left n listed:=by
 unfold left
 have hsub:(List.range n).filter (fun k=>!(listed.setIfInBounds i true).getD k false)=((List.range n).filter (fun k=>!listed.getD k false)).filter (fun k=>!(listed.setIfInBounds i true).getD k false):=by
  rw [List.filter_filter]
  apply List.filter_congr
  intro k hk
  cases h:listed.getD k false with
  | false=>simp
  | true =>
   have:=(Li_set (listed:=listed) (i:=i) (by omega) k).2 (.inr h)
   unfold Li at this
   rw [this];rfl
 rw [hsub]
 apply List.length_filter_lt_length_iff_exists.2
 refine ⟨i,?_,?_⟩
 ·simp only [List.mem_filter,List.mem_range]
  refine ⟨hi,?_⟩
  unfold Li at hl
  simpa using hl
 ·have:=(Li_set (listed:=listed) (i:=i) (by omega) i).2 (.inl rfl)
  unfold Li at this
  rw [this];simp
section
variable {P:Program} {N:Nat} {ops:Array Oper} {ds:List DI} {dis:List DInstr} {r:Rec} {e0:Env} {h0:AHeap} {ts:List TS} {o:TE} {e1:Env} {h1:AHeap} {β0:Pl} {w0:World} {dfs:List Deferred}
 (S:SOk P N ops ds dis) (T:TrOk r dis e0 h0 ts o e1 h1)
variable {bl:Nat→Nat} {listed:Array Bool} {a:Act} {w:World} {p:Nat} {β:Pl}
 include S in
theorem ready_nil (hs:listed.size=ops.size) (hr:Region.ready .any ops listed=[]):∀ i,i<ops.size→Li listed i:=by
  intro i
  induction i using Nat.strongRecOn with
  | _ i ih =>
    intro hi
    by_cases hl:Li listed i
    · exact hl
    · exfalso
      have hmem:i∈Region.ready .any ops listed:=by
        simp only [Region.ready,List.mem_filter,List.mem_range,Bool.and_eq_true,Bool.not_eq_true']
        refine ⟨hi,?_,?_⟩
        · unfold Li at hl
          simp only [Array.getD_eq_getD_getElem?,Array.getElem?_eq_getElem (show i<listed.size by omega),Option.getD_some] at hl ⊢
          simpa using hl
        · obtain ⟨oj,d,k,h1,h2,h3,_⟩:=S.at hi
          rw [h1]
          simp only [Option.map_some,Option.getD_some,Array.all_eq_true']
          intro e he
          cases hb:Region.binds .any e with
          | false=>rfl
          | true =>
            simp only [Bool.not_true,Bool.false_or]
            have hm:e.on∈bindsOn oj:=by
              simp only [bindsOn,List.mem_map,List.mem_filter]
              exact ⟨e,⟨by simpa using he,hb⟩,rfl⟩
            have:=(S.edge h1 h2 hm).1
            exact ih e.on this (by omega)
      rw [hr] at hmem
      cases hmem
 include S T in
theorem Inv.all (SC : SoundCall P r) (RO : readsOk ts h1 dis ts = true) {ρ : Option Nat} {Q : Exit → Act → World → Prop}
    (hQ:∀ v,o=.pan v→∀ ex a' w',Fin P N h0 β0 w0 dfs (.panic v) ⟨wiped e0 dis,h1⟩ ex a' w'→Q ex a' w')
    (hQn:o=.fin→∀ ex a' w',Fin P N h0 β0 w0 dfs .normal ⟨e1,h1⟩ ex a' w'→Q ex a' w') :
    ∀ (fuel:Nat) (bl:Nat→Nat) (listed:Array Bool) (a:Act) (w:World) (p:Nat) (β:Pl),left ops.size listed≤fuel→Inv P N ops ds ts o e1 h1 h0 β0 w0 dfs bl listed a w p β→wpAnyIn (fen ρ) 0 P .any ops Q fuel listed a w:=by
  have fin:∀ (bl:Nat→Nat) (listed:Array Bool) (a:Act) (w:World) (p:Nat) (β:Pl),Inv P N ops ds ts o e1 h1 h0 β0 w0 dfs bl listed a w p β→Region.ready .any ops listed=[]→Q .normal a w:=by
    intro bl listed a w p β I hr
    have hall:=ready_nil S I.sz hr
    obtain ⟨q,β',I',hq⟩:=I.absorb S T _ _ _ rfl
    have hqr:q=reach ops ts o:=by
      rcases hq with h | ⟨h1,h2⟩
      · exact h
      · exact absurd (hall q (isA_lt S h1)) h2
    cases ho:o with
    | pan v =>
      obtain ⟨pa,_⟩:=pan_act S T ho
      exact absurd (hall _ (isA_lt S pa)) (I'.nolast v ho)
    | fin =>
      have hqs:q=ops.size:=by rw [hqr,ho];rfl
      subst hqs
      have hts:ts.length=ops.size:=by rw [T.fin ho,S.len2]
      have hh:heapAt ts h1 ops.size=h1:=by
        unfold heapAt;rw [List.getElem?_eq_none (by omega)]
      have he:envAt ts e1 ops.size=e1:=by
        unfold envAt;rw [List.getElem?_eq_none (by omega)]
      have R:=I'.rel
      have X:=I'.ext
      have g:=I'.gg
      rw [hh] at R X g
      refine hQn ho _ _ _ ⟨β',⟨R,fun t=>?_,g⟩,X,I'.dfr,I'.tmps,rfl⟩
      rcases I'.env t with ⟨i,i1,i2,i3,i4⟩ | ⟨f,f1,f2,f3,f4,f5⟩
      · have hi:i≤ops.size:=by rw [ho] at i1;exact i1
        have:=env_same S T (t:=t) ops.size i hi (by rw [ho];exact Nat.le_refl _) (fun x hx1 hx2 hw=>i3 x hx1 hx2 hw (hall x hx2))
        rw [he] at this
        rw [hh] at i4
        simp only
        rw [this];exact i4
      · omega
  intro fuel
  induction fuel with
  | zero =>
    intro bl listed a w p β hl I
    have hr:Region.ready .any ops listed=[]:=by
      cases h:Region.ready .any ops listed with
      | nil=>rfl
      | cons x xs =>
        have hx:x∈Region.ready .any ops listed:=by rw [h];exact List.mem_cons_self
        obtain ⟨h1,h2,_⟩:=ready_iff I.sz hx
        have:=left_set I.sz h1 h2
        omega
    exact ⟨hr,fin bl listed a w p β I hr⟩
  | succ fuel ih =>
    intro bl listed a w p β hl I
    refine ⟨fun hr=>fin bl listed a w p β I hr,fun i hi=>?_⟩
    obtain ⟨q,β',I',hq⟩:=I.absorb S T _ _ _ rfl
    obtain ⟨h1,h2,_⟩:=ready_iff I.sz hi
    refine I'.step S T SC RO hq hi (fun bl' a' w' p' β'' I''=>ih bl' _ a' w' p' β'' ?_ I'') hQ
    have:=left_set I.sz h1 h2
    omega
end
def Still (i:AInstr) (d:DInstr):Prop:=d.i=i∧∃ op,i.op=.op op∧((opClass op=.pure∧d.k=.pure)∨(opClass op=.read∧d.k=.read []))
theorem still_tr {r : Rec} : ∀ {is : List AInstr} {dis : List DInstr}, is.length = dis.length → (∀ (j : Nat) (i : AInstr) (d : DInstr), is[j]? = some i → dis[j]? = some d → Still i d) →
    ∀ (s:St) (x:AExit) (s':St),exIs r is s=some (x,s')→x=.normal∧s'.h=s.h∧∃ ts,trD r dis s.e s.h=some (ts,.fin,s'.e,s.h)
  | [],[],_,hst,s,x,s',he=>by
    simp only [exIs,Option.some.injEq,Prod.mk.injEq] at he
    obtain ⟨rfl,rfl⟩:=he
    exact ⟨rfl,rfl,[],rfl⟩
  | i::is,d::dis,hl,hst,s,x,s',he=>by
    have hrest:∀ (j:Nat) (i':AInstr) (d':DInstr),is[j]?=some i'→dis[j]?=some d'→Still i' d':=fun j i' d' h1 h2=>hst (j+1) i' d' (by simpa using h1) (by simpa using h2)
    obtain ⟨hdi,op,hop,hk⟩:=hst 0 i d rfl rfl
    unfold exIs at he
    unfold trD
    rw [hdi]
    cases hw:wanted s.e i.guard with
    | none=>rw [hw] at he;simp at he
    | some b =>
      rw [hw] at he
      cases b with
      | false =>
        simp only at he ⊢
        obtain ⟨a1,a2,ts,a3⟩:=still_tr (by simpa using hl) hrest _ x s' he
        simp only at a2 a3
        exact ⟨a1,a2,_,by rw [a3];rfl⟩
      | true =>
        simp only [hop] at he ⊢
        split at he
        · rename_i v h' ha
          obtain ⟨a1,a2,ts,a3⟩:=still_tr (by simpa using hl) hrest _ x s' he
          simp only at a2 a3
          have hh:h'=s.h:=by
            rcases hk with ⟨hc,_⟩ | ⟨hc,_⟩
            · exact (aop_pure hc ha s.h).1
            · exact aop_read hc ha
          subst hh
          refine ⟨a1,a2,⟨s.e,s.h,true,v⟩::ts,?_⟩
          rcases hk with ⟨_,hk⟩ | ⟨_,hk⟩<;>(rw [hk];simp only [ha,a3];rfl)
        · simp at he
  | [],d::dis,hl,_,_,_,_,_=>by simp at hl
  | i::is,[],hl,_,_,_,_,_=>by simp at hl
theorem sim_draw1 {P : Program} {r : Rec} (SC : SoundCall P r) {N : Nat} {ops : Array Oper} {c : ACode} (hc : cDraw1 P N ops = some c)
    {s s':St} {x:AExit} (he:ex r c s=some (x,s')) {β:Pl} {w:World} {a:Act} (G:Good P s.h β w s.e a.tmps) (hN:N≤a.tmps.size) {ρ:Option Nat} {Q:Exit→Act→World→Prop}
    (hQ:∀ e a' w',Fin P N s.h β w a.defers x s' e a' w'→Q e a' w'):wpAnyIn (fen ρ) 0 P .any ops Q ops.size (Array.replicate ops.size false) a { w with drawn:=w.drawn+1 }:=by
  simp only [cDraw1,Option.bind_eq_some_iff] at hc
  obtain ⟨is,his,ds,hds,hc⟩:=hc
  split at hc
  case isFalse=>simp at hc
  rename_i hok
  have hdk:∃ dis,dksOf ds ds.length ds 0=some dis:=by
    have:∀ (l:List DI) (k:Nat),∃ dis,dksOf ds ds.length l k=some dis:=by
      intro l
      induction l with
      | nil=>intro k;exact ⟨[],rfl⟩
      | cons d l ih =>
        intro k
        obtain ⟨dis,h⟩:=ih (k+1)
        have:∃ x,dkOf ds ds.length k d=some x:=by
          unfold dkOf;split<;>exact ⟨_,rfl⟩
        obtain ⟨x,hx⟩:=this
        exact ⟨x::dis,by simp only [dksOf,hx,h];rfl⟩
    exact this ds 0
  obtain ⟨dis,hdis⟩:=hdk
  have S:=sOk_of his hds hok hdis
  have main : ∀ (ts : List TS) (o : TE) (e1 : Env) (h1 : AHeap), trD r dis s.e s.h = some (ts, o, e1, h1) → readsOk ts h1 dis ts = true →
      (∀ v,o=.pan v→x=.panic v∧s'=⟨wiped s.e dis,h1⟩)→(o=.fin→x=.normal∧s'=⟨e1,h1⟩)→wpAnyIn (fen ρ) 0 P .any ops Q ops.size (Array.replicate ops.size false) a { w with drawn:=w.drawn+1 }:=by
    intro ts o e1 h1 htr hro hp hf
    have T:=tr_ok htr
    obtain ⟨R,X⟩:=G.rel.same (w':={ w with drawn:=w.drawn+1 }) rfl rfl rfl
    have hno:∀ i,¬ Li (Array.replicate ops.size false) i:=by
      intro i h
      unfold Li at h
      simp only [Array.getD_eq_getD_getElem?,Array.getElem?_replicate] at h
      split at h<;>simp at h
    refine Inv.all (h0:=s.h) (β0:=β) (w0:=w) (dfs:=a.defers) S T SC hro (fun v ho ex' a' w' F=>?_) (fun ho ex' a' w' F=>?_) ops.size (fun _=>0) _ a _ 0 β ?_ ?_
    · obtain ⟨rfl,rfl⟩:=hp v ho
      exact hQ _ _ _ F
    · obtain ⟨rfl,rfl⟩:=hf ho
      exact hQ _ _ _ F
    · unfold left
      exact Nat.le_trans (List.length_filter_le _ _) (by simp)
    · exact { sz := by simp, pL := Nat.zero_le _, acts := fun i hi => by omega, nolast := fun v ho => hno _, rel := by rw [T.h0]; exact R, gg := by rw [T.h0]; exact G.g, ext := by rw [T.h0]; exact X, closed := fun j oj _ hl => absurd hl (hno j),
              env:=fun t=>.inl ⟨0,Nat.zero_le _,fun x hx=>by omega,fun x _ _ _=>hno x,by rw [T.h0,T.e0];exact G.env t⟩,pend:=fun f _ _ _ hl=>absurd hl (hno f),dist:=fun f g _ _ _ _ hl=>absurd hl (hno f),dfr:=rfl,tmps:=hN }
  split at hc
  · rw [hdis] at hc
    simp only [Option.map_some,Option.some.injEq] at hc
    subst hc
    simp only [ex,exD] at he
    split at he
    · simp at he
    · rename_i ts o e1 h1 htr
      split at he
      · rename_i hro
        cases o with
        | fin =>
          simp only [Option.some.injEq,Prod.mk.injEq] at he
          obtain ⟨rfl,rfl⟩:=he
          exact main ts .fin e1 h1 htr hro (fun v h=>by cases h) (fun _=>⟨rfl,rfl⟩)
        | pan v =>
          simp only [Option.some.injEq,Prod.mk.injEq] at he
          obtain ⟨rfl,rfl⟩:=he
          exact main ts (.pan v) e1 h1 htr hro (fun v' h=>by cases h;exact ⟨rfl,rfl⟩) (fun h=>by cases h)
      · simp at he
  · rename_i hna
    simp only [Option.some.injEq] at hc
    subst hc
    simp only [ex] at he
    have hnact:∀ (j:Nat) (d:DI),ds[j]?=some d→d.c.isAct=false:=by
      intro j d hd
      cases h:d.c.isAct with
      | false=>rfl
      | true=>exact absurd (List.any_eq_true.2 ⟨d,List.mem_of_getElem? hd,h⟩) hna
    have hst:∀ (j:Nat) (i:AInstr) (d:DInstr),is[j]?=some i→dis[j]?=some d→Still i d:=by
      intro j i d hi hd
      obtain ⟨l1,a1⟩:=mkDI_at hds
      obtain ⟨l2,a2⟩:=dksOf_at hdis
      obtain ⟨di,b1,b2,b3⟩:=a1 j i hi
      obtain ⟨k,b4,b5⟩:=a2 j di b1
      rw [hd] at b5;cases b5
      have hn:=hnact j di b1
      have hac:∀ q,actsAhead ds q=0:=by
        intro q
        unfold actsAhead
        rw [List.length_eq_zero_iff,List.filter_eq_nil_iff]
        intro y hy
        obtain ⟨m,hm⟩:=List.mem_iff_getElem?.1 (List.mem_of_mem_take hy)
        rw [hnact m y hm];simp
      unfold dkOf at b4
      subst b2
      cases hop:di.i.op with
      | op op =>
        rw [hop] at b3
        simp only [insClass,Option.some.injEq] at b3
        cases hcl:di.c with
        | pure =>
          rw [hcl] at b4 b3;simp only [Option.some.injEq] at b4;subst b4
          exact ⟨rfl,op,hop,.inl ⟨b3,rfl⟩⟩
        | read =>
          rw [hcl] at b4 b3;simp only [Option.some.injEq] at b4;subst b4
          refine ⟨rfl,op,hop,.inr ⟨b3,?_⟩⟩
          have:placesQ ds ds.length (0+j) di.pre=[]:=by
            unfold placesQ
            rw [List.filter_eq_nil_iff]
            intro q _
            rw [hac,hac];simp
          simp only [this]
        | act=>rw [hcl] at hn;cases hn
        | free=>rw [hcl] at hn;cases hn
      | call f as =>
        rw [hop] at b3
        simp only [insClass,Option.some.injEq] at b3
        rw [←b3] at hn;cases hn
      | panic y=>rw [hop] at b3;simp [insClass] at b3
    have hlen:is.length=dis.length:=by
      rw [cInstrs_len his,S.len2];simp
    obtain ⟨rfl,hh,ts,htr⟩:=still_tr hlen hst s x s' he
    refine main ts .fin s'.e s.h htr ?_ (fun v h=>by cases h) (fun _=>⟨rfl,?_⟩)
    · have : ∀ (all : List TS) (h : AHeap) (dis : List DInstr) (ts : List TS), (∀ (d : DInstr), d ∈ dis → d.k = .pure ∨ d.k = .read []) → readsOk all h dis ts = true := by
        intro all h dis
        induction dis with
        | nil=>intro ts _;cases ts<;>rfl
        | cons d dis ih =>
          intro ts hd
          cases ts with
          | nil=>rfl
          | cons t ts =>
            simp only [readsOk,Bool.and_eq_true]
            refine ⟨?_,ih ts fun d hd'=>hd d (List.mem_cons_of_mem _ hd')⟩
            unfold readOk
            rcases hd d List.mem_cons_self with h | h<;>rw [h]
            split
            · rename_i qs op h1 h2
              cases h1
              simp
            · rfl
      refine this _ _ _ _ fun d hd=>?_
      obtain ⟨j,hj⟩:=List.mem_iff_getElem?.1 hd
      have hjl:j<is.length:=by rw [hlen];exact (List.getElem?_eq_some_iff.1 hj).1
      obtain ⟨_,op,_,hk | hk⟩:=hst j _ d (List.getElem?_eq_getElem hjl) hj
      · exact .inl hk.2
      · exact .inr hk.2
    · cases s';simp only at hh;subst hh;rfl
theorem sim_draw {P : Program} {r : Rec} (SC : SoundCall P r) (hfol : P.follows .mixedOrders = true) {N : Nat} {id : Nat} {ops : Array Oper} {c : ACode} (hc : cDraw P N ops = some c)
    {s s':St} {x:AExit} (he:ex r c s=some (x,s')) {β:Pl} {w:World} {a:Act} (G:Good P s.h β w s.e a.tmps) (hN:N≤a.tmps.size) {ρ:Option Nat} {Q:Exit→Act→World→Prop}
    (hQ:∀ e a' w',Fin P N s.h β w a.defers x s' e a' w'→Q e a' w'):(Code.region id ops true).wpIn (fen ρ) 0 P Q a w:=by
  refine wpIn_region_any hfol ?_
  unfold cDraw at hc
  split at hc
  · rename_i c' hc'
    simp only [Option.some.injEq] at hc
    subst hc
    exact sim_draw1 SC hc' he G hN hQ
  · simp only at hc
    split at hc
    · rename_i hσ
      have h:=sim_draw1 (ρ:=ρ) SC hc he G hN hQ
      rw [perm_size hσ] at h
      refine perm_any hσ ops.size _ _ a _ ⟨by simp,by simp,fun k i hk=>?_⟩ h
      simp only [Array.getD_eq_getD_getElem?,Array.getElem?_replicate]
      split<;>split<;>rfl
    · simp at hc
end Go.AM
namespace Go.AM
set_option linter.unusedVariables false
set_option linter.unusedSimpArgs false
def SoundLoop (P:Program) (n:Nat) (r:Rec):Prop :=
 ∀ (b:ACode) (s:St) (x:AExit) (s':St),r.code (.loop b) s=some (x,s')→∀ (N:Nat) (mb:Code),cCode P N mb=some b →
  ∀ (β:Pl) (w:World) (a:Act),Good P s.h β w s.e a.tmps→N≤a.tmps.size→∀ (Q:Exit→Act→World→Prop),(∀ ex a' w',Fin P N s.h β w a.defers x s' ex a' w'→Q ex a' w') →
   ∀ ρ:Option Nat,Code.roundsIn (fen ρ) 0 P mb Q n a w
theorem sim_code {P : Program} {r : Rec} {n : Nat} (SC : SoundCall P r) (SL : SoundLoop P n r) {N : Nat} {ρ : Option Nat} (hfol : P.follows .mixedOrders = true) : ∀ (mc : Code) (c : ACode), cCode P N mc = some c →
    ∀ (s:St) (x:AExit) (s':St),ex r c s=some (x,s')→∀ (β:Pl) (w:World) (a:Act),Good P s.h β w s.e a.tmps→N≤a.tmps.size →
      ∀ (Q:Exit→Act→World→Prop),(∀ e a' w',Fin P N s.h β w a.defers x s' e a' w'→Q e a' w')→mc.wpIn (fen ρ) 0 P Q a w:=by
  intro mc
  induction mc with
  | skip =>
    intro c hc s x s' he β w a G hN Q hQ
    simp only [cCode,Option.some.injEq] at hc
    subst hc
    simp only [ex,Option.some.injEq,Prod.mk.injEq] at he
    obtain ⟨rfl,rfl⟩:=he
    exact wpIn_skip (hQ _ _ _ ⟨β,G,Ext.refl _ _ _,rfl,hN,rfl⟩)
  | exit id =>
    intro c hc s x s' he β w a G hN Q hQ
    simp only [cCode,Option.some.injEq] at hc
    subst hc
    simp only [ex,Option.some.injEq,Prod.mk.injEq] at he
    obtain ⟨rfl,rfl⟩:=he
    exact wpIn_exit (hQ _ _ _ ⟨β,G,Ext.refl _ _ _,rfl,hN,rfl⟩)
  | ret =>
    intro c hc s x s' he β w a G hN Q hQ
    simp only [cCode,Option.some.injEq] at hc
    subst hc
    simp only [ex,Option.some.injEq,Prod.mk.injEq] at he
    obtain ⟨rfl,rfl⟩:=he
    exact wpIn_ret (hQ _ _ _ ⟨β,G,Ext.refl _ _ _,rfl,hN,rfl⟩)
  | region id ops draw =>
    intro c hc s x s' he β w a G hN Q hQ
    simp only [cCode] at hc
    split at hc
    · rename_i hd
      subst hd
      simp only [Option.map_eq_some_iff] at hc
      obtain ⟨is,his,rfl⟩:=hc
      simp only [ex] at he
      exact sim_region SC his he G hN hQ
    · rename_i hd
      have hd':draw=true:=by simpa using hd
      subst hd'
      exact sim_draw SC hfol hc he G hN hQ
  | seq p q ihp ihq =>
    intro c hc s x s' he β w a G hN Q hQ
    simp only [cCode,Option.bind_eq_some_iff,Option.map_eq_some_iff] at hc
    obtain ⟨cp,hp,cq,hq,rfl⟩:=hc
    simp only [ex] at he
    refine wpIn_seq ?_
    cases hp1:ex r cp s with
    | none=>rw [hp1] at he;simp at he
    | some y =>
      obtain ⟨x1,s1⟩:=y
      rw [hp1] at he
      refine ihp cp hp s x1 s1 hp1 β w a G hN _ ?_
      intro e a1 w1 F
      cases x1 with
      | normal =>
        simp only at he
        have F':=F
        obtain ⟨β1,G1,X1,hd1,hN1,hx1⟩:=F
        simp only [exitRel] at hx1
        subst hx1
        simp only [Exit.then]
        exact ihq cq hq s1 x s' he β1 w1 a1 G1 hN1 Q (fun e a' w' F2=>hQ e a' w' (by rw [hd1] at F2;exact F2.trans X1))
      | exit id =>
        simp only [Option.some.injEq,Prod.mk.injEq] at he
        obtain ⟨rfl,rfl⟩:=he
        have F':=F
        obtain ⟨β1,G1,X1,hd1,hN1,hx1⟩:=F
        simp only [exitRel] at hx1
        subst hx1
        exact hQ _ _ _ F'
      | ret =>
        simp only [Option.some.injEq,Prod.mk.injEq] at he
        obtain ⟨rfl,rfl⟩:=he
        have F':=F
        obtain ⟨β1,G1,X1,hd1,hN1,hx1⟩:=F
        simp only [exitRel] at hx1
        subst hx1
        exact hQ _ _ _ F'
      | panic v =>
        simp only [Option.some.injEq,Prod.mk.injEq] at he
        obtain ⟨rfl,rfl⟩:=he
        have F':=F
        obtain ⟨β1,G1,X1,hd1,hN1,v',hx1,_⟩:=F
        subst hx1
        exact hQ _ _ _ F'
  | cond c0 p q ihp ihq =>
    intro c hc s x s' he β w a G hN Q hQ
    simp only [cCode,Option.bind_eq_some_iff,Option.map_eq_some_iff] at hc
    obtain ⟨cc,h1,cp,hp,cq,hq,rfl⟩:=hc
    simp only [ex] at he
    have rc:=opd_vrel G h1
    split at he
    · rename_i hb
      rw [hb] at rc
      simp only [vrel] at rc
      exact wpIn_cond_true rc (ihp cp hp s x s' he β w a G hN Q hQ)
    · rename_i hb
      rw [hb] at rc
      simp only [vrel] at rc
      exact wpIn_cond_false rc (ihq cq hq s x s' he β w a G hN Q hQ)
    · simp at he
  | block id b ih =>
    intro c hc s x s' he β w a G hN Q hQ
    simp only [cCode,Option.map_eq_some_iff] at hc
    obtain ⟨cb,hb,rfl⟩:=hc
    simp only [ex] at he
    refine wpIn_block ?_
    cases hp1:ex r cb s with
    | none=>rw [hp1] at he;simp at he
    | some y =>
      obtain ⟨x1,s1⟩:=y
      rw [hp1] at he
      refine ih cb hb s x1 s1 hp1 β w a G hN _ ?_
      intro e a1 w1 F
      cases x1 with
      | normal =>
        simp only [Option.some.injEq,Prod.mk.injEq] at he
        obtain ⟨rfl,rfl⟩:=he
        have F':=F
        obtain ⟨β1,G1,X1,hd1,hN1,hx1⟩:=F
        simp only [exitRel] at hx1
        subst hx1
        exact hQ _ _ _ F'
      | exit id' =>
        obtain ⟨β1,G1,X1,hd1,hN1,hx1⟩:=F
        simp only [exitRel] at hx1
        subst hx1
        simp only [Exit.inBlock]
        simp only at he
        split at he
        · rename_i hid
          simp only [Option.some.injEq,Prod.mk.injEq] at he
          obtain ⟨rfl,rfl⟩:=he
          rw [if_pos hid]
          exact hQ _ _ _ ⟨β1,G1,X1,hd1,hN1,rfl⟩
        · rename_i hid
          simp only [Option.some.injEq,Prod.mk.injEq] at he
          obtain ⟨rfl,rfl⟩:=he
          rw [if_neg hid]
          exact hQ _ _ _ ⟨β1,G1,X1,hd1,hN1,rfl⟩
      | ret =>
        simp only [Option.some.injEq,Prod.mk.injEq] at he
        obtain ⟨rfl,rfl⟩:=he
        have F':=F
        obtain ⟨β1,G1,X1,hd1,hN1,hx1⟩:=F
        simp only [exitRel] at hx1
        subst hx1
        exact hQ _ _ _ F'
      | panic v =>
        simp only [Option.some.injEq,Prod.mk.injEq] at he
        obtain ⟨rfl,rfl⟩:=he
        have F':=F
        obtain ⟨β1,G1,X1,hd1,hN1,v',hx1,_⟩:=F
        subst hx1
        exact hQ _ _ _ F'
  | loop b ih =>
    intro c hc s x s' he β w a G hN Q hQ
    simp only [cCode,Option.map_eq_some_iff] at hc
    obtain ⟨cb,hb,rfl⟩:=hc
    simp only [ex] at he
    refine wpIn_loop_rounds (n+1) ?_
    rw [roundsIn_succ]
    cases hp1:ex r cb s with
    | none=>rw [hp1] at he;simp at he
    | some y =>
      obtain ⟨x1,s1⟩:=y
      rw [hp1] at he
      refine ih cb hb s x1 s1 hp1 β w a G hN _ ?_
      intro e a1 w1 F
      cases x1 with
      | normal =>
        simp only at he
        obtain ⟨β1,G1,X1,hd1,hN1,hx1⟩:=F
        simp only [exitRel] at hx1
        subst hx1
        simp only [Exit.then]
        exact SL cb s1 x s' he N b hb β1 w1 a1 G1 hN1 Q (fun e a' w' F2=>hQ e a' w' (by rw [hd1] at F2;exact F2.trans X1)) ρ
      | exit id =>
        simp only [Option.some.injEq,Prod.mk.injEq] at he
        obtain ⟨rfl,rfl⟩:=he
        have F':=F
        obtain ⟨β1,G1,X1,hd1,hN1,hx1⟩:=F
        simp only [exitRel] at hx1
        subst hx1
        exact hQ _ _ _ F'
      | ret =>
        simp only [Option.some.injEq,Prod.mk.injEq] at he
        obtain ⟨rfl,rfl⟩:=he
        have F':=F
        obtain ⟨β1,G1,X1,hd1,hN1,hx1⟩:=F
        simp only [exitRel] at hx1
        subst hx1
        exact hQ _ _ _ F'
      | panic v =>
        simp only [Option.some.injEq,Prod.mk.injEq] at he
        obtain ⟨rfl,rfl⟩:=he
        have F':=F
        obtain ⟨β1,G1,X1,hd1,hN1,v',hx1,_⟩:=F
        subst hx1
        exact hQ _ _ _ F'
  | rangeFunc f ps p q ihp ihq=>intro c hc;simp [cCode] at hc
  | scope b ih=>intro c hc;simp [cCode] at hc
  | label l=>intro c hc;simp [cCode] at hc
  | goto l=>intro c hc;simp [cCode] at hc
  | refuse y=>intro c hc;simp [cCode] at hc
structure ProgOk (P:Program) (AP:AProg):Prop where
 fol:P.follows .mixedOrders=true
 fn:∀ f afn,Tr.get AP f=some afn→∃ fn,P.funcs[f]?=some fn∧(fn.name=="runtime.NumGoroutine")=false∧cFun P fn=some afn
theorem envOf_val {h:AHeap} {β:Pl}:∀ {args:List AVal} {vs:List Value} (i:Nat),vrels h β args vs→∀ t,vrel h β ((envOf i args).val t) (if t<i then undef else vs.getD (t-i) undef)∨(t<i∧(envOf i args).val t=.undef)∨(vs.length≤t-i∧(envOf i args).val t=.undef)
 | [],vs,i,r,t=>by
  rw [vrels_nil] at r;subst r
  right;right
  exact ⟨by simp,rfl⟩
 | a::as,vs,i,r,t=>by
  obtain ⟨v,ws,rfl,r1,r2⟩:=vrels_cons.1 r
  have ih:=envOf_val (i+1) r2 t
  simp only [envOf,Env.val,Tr.get_set]
  by_cases ht:t=i
  ·subst ht
   left
   rw [if_pos rfl,if_neg (by omega)]
   simpa using r1
  ·rw [if_neg ht]
   simp only [Env.val] at ih
   rcases ih with ih | ⟨h1,h2⟩ | ⟨h1,h2⟩
   ·left
    by_cases hl:t<i
    ·rw [if_pos hl];rwa [if_pos (by omega)] at ih
    ·rw [if_neg hl];rw [if_neg (by omega)] at ih
     have:t-i=(t-(i+1))+1:=by omega
     rw [this];simpa using ih
   ·right;left;exact ⟨by omega,h2⟩
   ·by_cases hl:t<i
    ·right;left;exact ⟨hl,h2⟩
    ·right;right
     exact ⟨by simp;omega,h2⟩
def resM (a:Act) (r:ResultVar):Sem Value:=match r with
 | .tmp t=>pure (a.tmps.getD t undef)
 | .cell t ty=>do loadVar ty (←asAddr (a.tmps.getD t undef))
theorem load_run {P : Program} {w : World} {h : AHeap} {β : Pl} {e : Env} {a : Act} (G : Good P h β w e a.tmps) {t : Nat} {ty : TypeId} {n : Option Nat} (hn : aggN P ty = some n) {av : AVal} {h' : AHeap} (he : aop e h (.load n (.tmp t)) = some (av, h')) :
    ∃ v,(resM a (.cell t ty)).run P w=.ok v w∧vrel h β av v:=by
  obtain ⟨w1,β1,hrun,_,_⟩:=sim_load (o:={ dst:=none,op:=.load ty (.tmp t),type:=0,pos:="",after:=#[],guard:=none }) G rfl hn (x:=.tmp t) rfl he
  simp only [aop,opMov,opPick,opAlloc,opBox,opBuild,opBuildSlice,opLoad,opStore,opNilCheck,opBin,opEql,opUn,opConv,opB2s,opMkIface,opMkFn,opMkMap,opMkSlice,opSlice,opFieldAddr,opField,opIdxS,opIdxA,opIndex,opIndexStr,opLookup,opMapUpd,opAssertT,opExtract,opLenS,opLenT,opLenM,opMin,opMax,opAppend,opCopy,opDelete,opd] at he
  have rx:=G.env t
  split at he
  · rename_i id g off hh
    have rx':=rx
    rw [hh] at rx
    simp only [vrel] at rx
    obtain ⟨ad,ev,hp1,hp2,hp3⟩:=rx
    rw [if_pos hp1] at he
    simp only [aggN,isAggT,Option.bind_eq_some_iff,Option.map_eq_some_iff] at hn
    obtain ⟨b,⟨d,hd,hb⟩,hn⟩:=hn
    have hagg:(isAgg ty).run P w=.ok b w:=by
      unfold isAgg
      simp only [Sem.run_bind,run_underlying_of hd,Result.andThen_ok]
      subst hb
      cases d<;>rfl
    split at he
    · simp only [Option.bind_eq_some_iff] at he
      obtain ⟨cs,hrd,he⟩:=he
      split at he
      · rename_i v
        simp only [Option.some.injEq,Prod.mk.injEq] at he
        obtain ⟨rfl,rfl⟩:=he
        have hbf:b=false:=by
          cases b
          · rfl
          · rw [if_pos rfl] at hn;simp only [Option.map_eq_some_iff] at hn;obtain ⟨_,_,h2⟩:=hn;cases h2
        subst hbf
        obtain ⟨hg,vs,hvs,hvl,_,hc⟩:=read_at G.rel hp1 hrd
        obtain ⟨v',ws,rfl,hv',_⟩:=vrels_cons.1 hvs
        have h0:=hc 0 v' rfl
        have ha:=hp3 hg
        subst ha
        have h0':w.cell? ⟨(β id).b,(β id).o+off,none⟩=some v':=by simpa [Addr.add] using h0
        exact ⟨v',by simp [resM,ev,asAddr,loadVar,hagg,h0'],hv'⟩
      · simp at he
    · rename_i m
      simp only [Option.map_eq_some_iff,Prod.mk.injEq] at he
      obtain ⟨cs,hrd,rfl,rfl⟩:=he
      have hbt:b=true∧sizeT P ty=some m:=by
        cases b
        · simp at hn
        · rw [if_pos rfl] at hn;simp only [Option.map_eq_some_iff] at hn;obtain ⟨k,h1,h2⟩:=hn;cases h2;exact ⟨rfl,h1⟩
      obtain ⟨rfl,hsz⟩:=hbt
      simp only [sizeT,Option.map_eq_some_iff] at hsz
      obtain ⟨ti,hti,hsz⟩:=hsz
      obtain ⟨hg,vs,hvs,hvl,_,hc⟩:=read_at G.rel hp1 hrd
      have ha:=hp3 hg
      subst ha
      have hld:=run_loadCells_list (P:=P) w ⟨(β id).b,(β id).o+off,none⟩ vs hc
      rw [hvl] at hld
      exact ⟨.agg vs.toArray,by simp [resM,ev,asAddr,loadVar,hagg,run_sizeOf_of hti,hsz,hld],by simp only [vrel];exact ⟨_,rfl,by simpa using hvs⟩⟩
  · simp at he
theorem resVals_run {P : Program} {w : World} {β : Pl} {s : St} {a : Act} (G : Good P s.h β w s.e a.tmps) : ∀ {rs : List ResultVar} {ars : List AResVar} {vs : List AVal}, cRes P rs = some ars → resVals s ars = some vs →
    ∃ xs:List Value,vrels s.h β vs xs∧(rs.mapM (resM a)).run P w=.ok xs w
  | [],ars,vs,hc,he=>by
    simp only [cRes,Option.some.injEq] at hc
    subst hc
    simp only [resVals,Option.some.injEq] at he
    subst he
    exact ⟨[],by simp [vrels],rfl⟩
  | .tmp t::rs,ars,vs,hc,he=>by
    simp only [cRes,Option.map_eq_some_iff] at hc
    obtain ⟨ars',hc',rfl⟩:=hc
    simp only [resVals,resVal,Option.bind_eq_some_iff,Option.map_eq_some_iff,Option.some.injEq] at he
    obtain ⟨v,rfl,vs',he',rfl⟩:=he
    obtain ⟨xs,hx,hr⟩:=resVals_run G hc' he'
    refine ⟨_::xs,vrels_cons_cons.2 ⟨G.env t,hx⟩,?_⟩
    simp only [List.mapM_cons,Sem.run_bind,resM,Sem.run_pure,Result.andThen_ok,hr]
  | .cell t ty::rs,ars,vs,hc,he=>by
    simp only [cRes,Option.bind_eq_some_iff,Option.map_eq_some_iff] at hc
    obtain ⟨n,hn,ars',hc',rfl⟩:=hc
    simp only [resVals,resVal,Option.bind_eq_some_iff,Option.map_eq_some_iff,Prod.exists] at he
    obtain ⟨v,⟨v1,h1,ha,rfl⟩,vs',he',rfl⟩:=he
    obtain ⟨xs,hx,hr⟩:=resVals_run G hc' he'
    obtain ⟨v',hl,hv⟩:=load_run G hn ha
    refine ⟨v'::xs,vrels_cons_cons.2 ⟨hv,hx⟩,?_⟩
    simp only [List.mapM_cons,Sem.run_bind,hl,Result.andThen_ok,hr,Sem.run_pure]
theorem results_run {P : Program} {w : World} {β : Pl} {s : St} {a : Act} (G : Good P s.h β w s.e a.tmps) {fn : Func} {ars : List AResVar} {v : AVal} (hc : cRes P fn.results.toList = some ars) (he : resOf s ars = some v) :
    ∃ x,(results fn a.tmps).run P w=.ok x w∧vrel s.h β v x:=by
  simp only [resOf,Option.map_eq_some_iff] at he
  obtain ⟨vs,hvs,hv⟩:=he
  obtain ⟨xs,hx,hr⟩:=resVals_run G hc hvs
  have hm:(fn.results.mapM (resM a)).run P w=.ok xs.toArray w:=by
    rw [Array.mapM_eq_mapM_toList]
    simp only [Sem.run_bind,Sem.run_map,hr,Result.andThen_ok]
  have hres:(results fn a.tmps).run P w=.ok (if h:xs.toArray.size=1 then xs.toArray[0] else .tuple xs.toArray) w:=by
    show (Sem.run P (fn.results.mapM (resM a) >>= fun vs=>pure (if h:vs.size=1 then vs[0] else .tuple vs)) w)=_
    rw [Sem.run_bind,hm]
    rfl
  refine ⟨_,hres,?_⟩
  have hl:=vrels_length hx
  split at hv
  · rename_i u
    obtain ⟨x,ws,rfl,h1,h2⟩:=vrels_cons.1 hx
    rw [vrels_nil] at h2
    subst h2
    subst hv
    simpa using h1
  · rename_i hne
    have:¬ xs.toArray.size=1:=by
      intro h1
      simp at h1
      rw [hl] at h1
      match vs,h1 with
      | [u],_=>exact hne u rfl
    rw [dif_neg this]
    subst hv
    simp only [vrel]
    exact ⟨_,rfl,by simpa using hx⟩
def SoundLate (P:Program) (r:Rec):Prop :=
  ∀ f args pan h h',r.late f args pan h=some h'→(∃ fn,P.funcs[f]?=some fn∧(fn.name=="runtime.NumGoroutine")=false∧fn.body.isNone=false)∧∀ β w (vs:Array Value) (u:FrameMode),Rel h β w→GOk P h→vrels h β args vs.toList →
    (match pan with
     | none=>u=.returning
     | some v=>∃ x,u=.panicking [{ v:=x,recovered:=false }]∧vrel h β v x) →
    CallsD P f vs u w fun e u' w'=>(∃ v,e=.returned v)∧settle u'=.returning∧∃ β',Rel h' β' w'∧Ext h β w h' β' w'
theorem good_enter {P : Program} {h : AHeap} {β : Pl} {w : World} {args : List AVal} {vs : Array Value} (R : Rel h β w) (hg : GOk P h) (hv : vrels h β args vs.toList) (n : Nat) :
    Good P h β w (envOf 0 args) (vs++Array.replicate (n-vs.size) undef):=by
  have hvl:=vrels_length hv
  refine ⟨R,fun t=>?_,hg⟩
  have:=envOf_val 0 hv t
  rw [if_neg (Nat.not_lt_zero t)] at this
  simp only [Nat.sub_zero] at this
  rcases this with this | ⟨h1,_⟩ | ⟨h1,h2⟩
  · by_cases hl:t<vs.size
    · have e : (vs ++ Array.replicate (n - vs.size) undef).getD t undef = vs.toList.getD t undef := by
        simp [Array.getD_eq_getD_getElem?,Array.getElem?_append,hl,List.getD]
      rw [e];exact this
    · have e : (vs ++ Array.replicate (n - vs.size) undef).getD t undef = undef := by
        simp only [Array.getD_eq_getD_getElem?,Array.getElem?_append,hl,if_false,Array.getElem?_replicate]
        split<;>rfl
      rw [e]
      have e2:vs.toList.getD t undef=undef:=by
        simp [List.getD,hl]
      rwa [e2] at this
  · omega
  · rw [h2];simp [vrel]
theorem deferOp_of {o:Oper} {x:Operand} (h:deferOp o=some x):∃ c,o.op=.defer c∧o.guard=none∧o.dst=none∧c.callee=.value x∧c.args=#[]:=by
 unfold deferOp at h
 split at h
 ·rename_i c h1 h2 h3
  split at h
  ·rename_i y h4 h5
   simp only [Option.some.injEq] at h
   subst h
   exact ⟨c,h1,h2,h3,h4,by simpa using h5⟩
  ·simp at h
 ·simp at h
theorem split_of {os init:List Oper} {x:Operand} (h:splitDefer os=some (init,x)):∃ o,os=init++[o]∧deferOp o=some x:=by
 unfold splitDefer at h
 split at h
 ·rename_i o ho
  simp only [Option.map_eq_some_iff,Prod.mk.injEq] at h
  obtain ⟨y,hy,rfl,rfl⟩:=h
  obtain ⟨ys,rfl⟩:=List.getLast?_eq_some_iff.1 ho
  exact ⟨o,by simp,hy⟩
 ·simp at h
theorem sim_late {P : Program} {r : Rec} {n : Nat} (SC : SoundCall P r) (SL : SoundLoop P n r) {N : Nat} (hfol : P.follows .mixedOrders = true) : ∀ (mc : Code) (p : ACode) (x : AOpd) (t : ACode), cLate P N mc = some (p, x, t) →
    ∀ (s:St) (x1:AExit) (s1:St),ex r p s=some (x1,s1)→(x1=.normal→∃ g first captured,opd s1.e x=.fn (.func g) first captured)→∀ (β:Pl) (w:World) (a:Act),Good P s.h β w s.e a.tmps→N≤a.tmps.size→∀ (Q:Exit→Act→World→Prop),
      (x1≠.normal→∀ e a' w',Fin P N s.h β w a.defers x1 s1 e a' w'→Q e a' w') →
      (x1=.normal→∀ (mt:Code),cCode P N mt=some t→∀ (β1:Pl) (w1:World) (a1:Act) (g:FuncId) (first captured:List AVal) (fv cv:Array Value),opd s1.e x=.fn (.func g) first captured→vrels s1.h β1 first fv.toList→vrels s1.h β1 captured cv.toList →
        Good P s1.h β1 w1 s1.e a1.tmps→N≤a1.tmps.size→Ext s.h β w s1.h β1 w1→a1.defers={ target:=.fn (.func g) cv,args:=fv++#[] }::a.defers→mt.wpIn (fen none) 0 P Q a1 w1) →
      mc.wpIn (fen none) 0 P Q a w:=by
  intro mc
  induction mc with
  | seq ca cb iha ihb =>
    intro p x t hc s x1 s1 he hx β w a G hN Q hQ1 hQ2
    have plainly:∀ {pa pb:ACode},cCode P N ca=some pa→cLate P N cb=some (pb,x,t)→p=.seq pa pb→(Code.seq ca cb).wpIn (fen none) 0 P Q a w:=by
      intro pa pb hpa hpb hp
      subst hp
      simp only [ex] at he
      refine wpIn_seq ?_
      cases hp1:ex r pa s with
      | none=>rw [hp1] at he;simp at he
      | some y =>
        obtain ⟨x2,s2⟩:=y
        rw [hp1] at he
        refine sim_code SC SL hfol ca pa hpa s x2 s2 hp1 β w a G hN _ ?_
        intro e a2 w2 F
        cases x2 with
        | normal =>
          simp only at he
          obtain ⟨β2,G2,X2,hd2,hN2,hx2⟩:=F
          simp only [exitRel] at hx2
          subst hx2
          simp only [Exit.then]
          refine ihb pb x t hpb s2 x1 s1 he hx β2 w2 a2 G2 hN2 Q (fun hn e a' w' F2=>hQ1 hn e a' w' (by rw [hd2] at F2;exact F2.trans X2)) ?_
          intro hn mt hmt β1 w1 a1 g first captured fv cv h1 h2 h3 h4 h5 h6 h7
          exact hQ2 hn mt hmt β1 w1 a1 g first captured fv cv h1 h2 h3 h4 h5 (X2.trans h6) (by rw [h7,hd2])
        | exit id =>
          simp only [Option.some.injEq,Prod.mk.injEq] at he
          obtain ⟨rfl,rfl⟩:=he
          have F':=F
          obtain ⟨β1,G1,X1,hd1,hN1,hx1⟩:=F
          simp only [exitRel] at hx1
          subst hx1
          exact hQ1 (by intro h;cases h) _ _ _ F'
        | ret =>
          simp only [Option.some.injEq,Prod.mk.injEq] at he
          obtain ⟨rfl,rfl⟩:=he
          have F':=F
          obtain ⟨β1,G1,X1,hd1,hN1,hx1⟩:=F
          simp only [exitRel] at hx1
          subst hx1
          exact hQ1 (by intro h;cases h) _ _ _ F'
        | panic v =>
          simp only [Option.some.injEq,Prod.mk.injEq] at he
          obtain ⟨rfl,rfl⟩:=he
          have F':=F
          obtain ⟨β1,G1,X1,hd1,hN1,v',hx1,_⟩:=F
          subst hx1
          exact hQ1 (by intro h;cases h) _ _ _ F'
    cases ca with
    | region id ops draw =>
      cases draw with
      | true =>
        simp only [cLate,Option.bind_eq_some_iff,Option.map_eq_some_iff,Prod.exists,Prod.mk.injEq] at hc
        obtain ⟨pa,hpa,pb,x',t',hpb,rfl,rfl,rfl⟩:=hc
        exact plainly hpa hpb rfl
      | false =>
        simp only [cLate] at hc
        split at hc
        · rename_i init xo hsp
          simp only [Option.bind_eq_some_iff,Option.map_eq_some_iff,Prod.mk.injEq] at hc
          obtain ⟨is,his,x',hx',t',ht',rfl,rfl,rfl⟩:=hc
          obtain ⟨od,hos,hod⟩:=split_of hsp
          obtain ⟨c,ho1,ho2,ho3,ho4,ho5⟩:=deferOp_of hod
          simp only [ex] at he
          refine wpIn_seq (wpIn_region ?_)
          have hsz:ops.size=init.length+1:=by
            have:ops.toList.length=init.length+1:=by rw [hos];simp
            simpa using this
          have hget:∀ (j:Nat) (o:Oper),init[j]?=some o→ops[0+j]?=some o:=by
            intro j o h
            have hj:j<init.length:=(List.getElem?_eq_some_iff.1 h).1
            have:ops.toList[j]?=some o:=by rw [hos,List.getElem?_append_left hj];exact h
            simpa using this
          have hlast:ops[init.length]?=some od:=by
            have:ops.toList[init.length]?=some od:=by rw [hos];simp
            simpa using this
          have hr:List.range ops.size=List.range' 0 init.length++[init.length]:=by
            rw [hsz,List.range_succ,List.range_eq_range']
          rw [hr]
          refine sim_instrs (ρ:=none) SC init is 0 hget his s x1 s1 he β w a G hN ?_ ?_
          · rintro rfl a' w' ⟨β1,G1,X1,hd1,hN1,_⟩
            obtain ⟨g,first,captured,hfn⟩:=hx rfl
            have rf:=opd_vrel G1 hx'
            rw [hfn] at rf
            simp only [vrel] at rf
            obtain ⟨fv,cv,efv,rfirst,rcap⟩:=rf
            simp only [wpOpsIn,hlast]
            have hw:Region.wanted od (yielded ops a'.tmps)=true:=by simp [Region.wanted,ho2]
            rw [if_pos hw]
            refine ⟨fun _ _=>trivial,?_⟩
            have hrun:(Oper.semAt (fen none).round a'.eval od).run P w'=.ok (.defer { target:=.fn (.func g) cv,args:=fv++#[] }) w':=by
              show (execOp a'.eval od).run P w'=_
              unfold execOp
              rw [ho1]
              simp only [resolve,ho4,ho5,efv,Deferred.ofValue,Sem.run_bind,Sem.run_pure,Result.andThen_ok,Array.map_empty]
            rw [hrun,Oper.uponIn_defer,ho3]
            simp only [Exit.then,Act.put]
            exact hQ2 rfl cb ht' β1 w' _ g first captured fv cv hfn rfirst rcap ⟨G1.rel,G1.env,G1.g⟩ hN1 X1 (by simp [hd1])
          · intro hn ex' a' w' F
            cases x1 with
            | normal=>exact absurd rfl hn
            | exit id =>
              have F':=F
              obtain ⟨β1,G1,X1,hd1,hN1,hx1⟩:=F
              simp only [exitRel] at hx1
              subst hx1
              exact hQ1 (by intro h;cases h) _ _ _ F'
            | ret =>
              have F':=F
              obtain ⟨β1,G1,X1,hd1,hN1,hx1⟩:=F
              simp only [exitRel] at hx1
              subst hx1
              exact hQ1 (by intro h;cases h) _ _ _ F'
            | panic v =>
              have F':=F
              obtain ⟨β1,G1,X1,hd1,hN1,v',hx1,_⟩:=F
              subst hx1
              exact hQ1 (by intro h;cases h) _ _ _ F'
        · simp only [Option.bind_eq_some_iff,Option.map_eq_some_iff,Prod.exists,Prod.mk.injEq] at hc
          obtain ⟨pa,hpa,pb,x',t',hpb,rfl,rfl,rfl⟩:=hc
          exact plainly hpa hpb rfl
    | _ =>
      simp only [cLate,Option.bind_eq_some_iff,Option.map_eq_some_iff,Prod.exists,Prod.mk.injEq] at hc
      obtain ⟨pa,hpa,pb,x',t',hpb,rfl,rfl,rfl⟩:=hc
      exact plainly hpa hpb rfl
  | _=>intro p x t hc;simp [cLate] at hc
/-! ### Ranges over functions -/
def mkD (D:Nat):Deferred:={ target:=.collected D,args:=#[] }
def MarksOk (h:AHeap) (β:Pl) (w:World) (Ds:List Nat):Prop :=
 Ds.Nodup∧∀ D,D∈Ds→w.heap[D]?=some (.deferred (some []))∧∀ id,id<h.n→(h.get id).own=true→(β id).b≠D
theorem MarksOk.lt {h:AHeap} {β:Pl} {w:World} {Ds:List Nat} (M:MarksOk h β w Ds):∀ D,D∈Ds→D<w.heap.size:=fun D hD=>(Array.getElem?_eq_some_iff.1 (M.2 D hD).1).1
theorem MarksOk.ext {h:AHeap} {β:Pl} {w:World} {Ds:List Nat} (M:MarksOk h β w Ds) {h':AHeap} {β':Pl} {w':World} (X:Ext h β w h' β' w'):MarksOk h' β' w' Ds:=by
 refine ⟨M.1,fun D hD=>?_⟩
 obtain ⟨m1,m2⟩:=M.2 D hD
 have hlt:=M.lt D hD
 refine ⟨(X.keep D hlt m2).trans m1,fun id hid ho=>?_⟩
 rcases X.own id hid (AObj.real_of_own ho) with ⟨q1,q2,q3⟩ | q3
 ·rw [q3]
  refine m2 id q1 ?_
  cases hq:(h.get id).own with
  | true=>rfl
  | false=>rw [X.ro id q1 hq] at ho;rw [hq] at ho;cases ho
 ·omega
def FinR (P:Program) (N:Nat) (h:AHeap) (β:Pl) (w:World) (ds:List Deferred) (x:AExit) (s:St) (ex:Exit) (a:Act) (w':World):Prop :=
 ∃ β' Ds,Good P s.h β' w' s.e a.tmps∧Ext h β w s.h β' w'∧a.defers=Ds.map mkD++ds∧MarksOk s.h β' w' Ds∧(∀ D,D∈Ds→w.heap.size≤D)∧N≤a.tmps.size∧exitRel s.h β' x ex
theorem FinR.of {P:Program} {N:Nat} {h:AHeap} {β:Pl} {w:World} {ds:List Deferred} {x:AExit} {s:St} {ex:Exit} {a:Act} {w':World} (F:Fin P N h β w ds x s ex a w'):FinR P N h β w ds x s ex a w':=by
 obtain ⟨β',G,X,hd,hN,hx⟩:=F
 exact ⟨β',[],G,X,hd,⟨List.nodup_nil,fun D hD=>(nomatch hD)⟩,fun D hD=>(nomatch hD),hN,hx⟩
theorem FinR.trans {P : Program} {N : Nat} {h : AHeap} {β : Pl} {w : World} {h1 : AHeap} {β1 : Pl} {w1 : World} {ds : List Deferred} {Ds1 : List Nat} {x : AExit} {s : St} {ex : Exit} {a : Act} {w' : World}
    (X:Ext h β w h1 β1 w1) (M:MarksOk h1 β1 w1 Ds1) (hD:∀ D,D∈Ds1→w.heap.size≤D) (F:FinR P N h1 β1 w1 (Ds1.map mkD++ds) x s ex a w'):FinR P N h β w ds x s ex a w':=by
  obtain ⟨β',Ds,G,X',hd,M',hD',hN,hx⟩:=F
  refine ⟨β',Ds++Ds1,G,X.trans X',by rw [hd,List.map_append,List.append_assoc],⟨?_,fun D hm=>?_⟩,fun D hm=>?_,hN,hx⟩
  · refine List.nodup_append.2 ⟨M'.1,M.1,fun a ha b hb=>?_⟩
    have:=hD' a ha
    have:=M.lt b hb
    omega
  · rcases List.mem_append.1 hm with hm | hm
    · exact M'.2 D hm
    · exact (M.ext X').2 D hm
  · rcases List.mem_append.1 hm with hm | hm
    · have:=hD' D hm;have:=X.size;omega
    · exact hD D hm
theorem frozen_putLoop (w:World) {b:Nat} {r r':Loop} (h:w.heap[b]?=some (.loop r)) (a:Addr):(w.putObj b (.loop r')).frozen? a=w.frozen? a:=by
 have hlt:=(Array.getElem?_eq_some_iff.1 h).1
 by_cases e:a.block=b
 ·subst e
  unfold World.frozen?
  rw [World.putObj_heap_same hlt,h]
 ·exact frozen_eq (World.putObj_heap_other e)
theorem loop_upd {h : AHeap} {β : Pl} {w : World} (R : Rel h β w) {id : Nat} (hid : id < h.n) {st : Nat} {pend : Option AJump} {e : Tr AVal} {ps : List Nat} {asg body : ACode} (hg : h.get id = .loop st pend e ps asg body) {r r' : Loop} (hw : w.heap[(β id).b]? = some (.loop r))
    {st':Nat} {pend':Option AJump} (hr:lrel h β r' st' pend' e ps asg body) :
    Rel (h.set id (.loop st' pend' e ps asg body)) β (w.putObj (β id).b (.loop r'))∧Ext h β w (h.set id (.loop st' pend' e ps asg body)) β (w.putObj (β id).b (.loop r')):=by
  have hlt:(β id).b<w.heap.size:=(Array.getElem?_eq_some_iff.1 hw).1
  have hu:=Rel.upd (w':=w.putObj (β id).b (.loop r')) R hid (by rw [hg];rfl) (o:=.loop st' pend' e ps asg body) (l:=β id) (.inl rfl)
    (by
      have e1:h.gen id=0:=by unfold AHeap.gen;rw [hg]
      have e2:(h.set id (.loop st' pend' e ps asg body)).gen id=0:=by unfold AHeap.gen;rw [AHeap.get_set_same]
      rw [e1,e2];exact ⟨Nat.le_refl _,fun _=>rfl⟩)
    (by simp) (fun b _ hne=>World.putObj_heap_other hne) rfl rfl (frozen_putLoop w hw)
    (fun hx=>⟨r',World.putObj_heap_same hlt,hr.mono hx⟩)
  rwa [updP_self] at hu
theorem loop_at {h : AHeap} {β : Pl} {w : World} (R : Rel h β w) {id : Nat} {st : Nat} {pend : Option AJump} {e : Tr AVal} {ps : List Nat} {asg body : ACode} (hg : h.get id = .loop st pend e ps asg body) :
    id<h.n∧h.gen id=0∧∃ r,w.heap[(β id).b]?=some (.loop r)∧lrel h β r st pend e ps asg body:=by
  have hid:id<h.n:=by
    rcases Nat.lt_or_ge id h.n with q | q
    · exact q
    · rw [R.top id q] at hg;cases hg
  have:=R.obj id hid
  rw [hg] at this
  exact ⟨hid,by unfold AHeap.gen;rw [hg],this⟩
theorem foldl_size:∀ (l:List (Tmp×Value)) (tmps:Array Value),(l.foldl (fun tmps (t,a)=>tmps.setIfInBounds t a) tmps).size=tmps.size
 | [],tmps=>rfl
 | (t,a)::l,tmps=>by rw [List.foldl_cons,foldl_size l];simp
theorem putAll_env {h : AHeap} {β : Pl} : ∀ (ps : List Nat) (as : List AVal) (vs : List Value) (e : Env) (tmps : Array Value), vrels h β as vs → (∀ t, t ∈ ps → t < tmps.size) → (∀ t, vrel h β (e.val t) (tmps.getD t undef)) →
    ∀ t,vrel h β ((putAll e ps as).val t) (((ps.zip vs).foldl (fun tmps (t,a)=>tmps.setIfInBounds t a) tmps).getD t undef)
  | [],as,vs,e,tmps,r,hp,he,t=>by cases as<;>exact he t
  | p::ps,[],vs,e,tmps,r,hp,he,t=>by rw [vrels_nil] at r;subst r;exact he t
  | p::ps,a::as,vs,e,tmps,r,hp,he,t=>by
    obtain ⟨v,ws,rfl,r1,r2⟩:=vrels_cons.1 r
    have hps:p<tmps.size:=hp p List.mem_cons_self
    refine putAll_env ps as ws (Tr.set e p a) (tmps.setIfInBounds p v) r2 (fun t ht=>by simpa using hp t (List.mem_cons_of_mem _ ht)) (fun t=>?_) t
    simp only [Env.val,Tr.get_set]
    by_cases ht:t=p
    · subst ht
      rw [if_pos rfl]
      simp only [Array.getD_eq_getD_getElem?,Array.getElem?_setIfInBounds,if_true,hps,Option.getD_some]
      exact r1
    · rw [if_neg ht]
      have:=he t
      simp only [Env.val] at this
      simpa only [Array.getD_eq_getD_getElem?,Array.getElem?_setIfInBounds,if_neg (Ne.symm ht)] using this
theorem stOf_busy {n:Nat} (h:n≠1):stOf n≠.busy:=by
 match n,h with
 | 0,_=>intro e;cases e
 | 1,h=>exact absurd rfl h
 | 2,_=>intro e;cases e
 | _+3,_=>intro e;cases e
theorem sim_yld {P:Program} {r:Rec} {n:Nat} (SC:SoundCall P r) (SL:SoundLoop P n r) (hfol:P.follows .mixedOrders=true) {r':Rec} (hy:r'.yld=yldF r):SoundYld P r':=by
 intro id args h v h' he β w vs ρ R hg hv
 rw [hy] at he
 unfold yldF at he
 split at he
 ·rename_i pend e ps asg body hget
  split at he
  ·rename_i hlen
   obtain ⟨hid,h0,rc,hw,hl⟩:=loop_at R hget
   obtain ⟨l1,l2,l3,l4,N,l5,l6,l7,l8⟩:=hl
   rw [hg.2] at l7 l8
   refine ⟨h0,rc.fn,_,rc.assign,rc.body,run_yield hw (by
    have:=vrels_length hv
    have e1:rc.params.size=ps.length:=by rw [←l4];simp
    simp only [Array.length_toList] at this
    omega),?_⟩
   have hsz:((rc.params.zip vs).foldl (fun tmps (t,a)=>tmps.setIfInBounds t a) rc.tmps).size=rc.tmps.size:=by
    rw [←Array.foldl_toList];exact foldl_size _ _
   have henv:∀ t,vrel h β ((putAll e ps args).val t) (((rc.params.zip vs).foldl (fun tmps (t,a)=>tmps.setIfInBounds t a) rc.tmps).getD t undef):=by
    rw [←Array.foldl_toList,Array.toList_zip,l4]
    exact putAll_env ps args vs.toList e rc.tmps hv (fun t ht=>Nat.lt_of_lt_of_le (l6 t ht) l5) l3
   generalize ((rc.params.zip vs).foldl (fun tmps (t,a)=>tmps.setIfInBounds t a) rc.tmps)=tm at hsz henv ⊢
   refine roundIn_of_wpIn trivial ?_
   cases hx1:ex r asg { e:=putAll e ps args,h:=h } with
   | none=>rw [hx1] at he;simp at he
   | some y =>
    obtain ⟨x1,s1⟩:=y
    rw [hx1] at he
    cases x1 with
    | normal =>
     simp only at he
     refine sim_code (ρ:=some (β id).b) SC SL hfol rc.assign asg l7 _ _ _ hx1 β w { tmps:=tm,defers:=[] } ⟨R,henv,hg⟩ (by rw [hsz];exact l5) _ ?_
     rintro e1 a1 w1 ⟨β1,G1,X1,hd1,hN1,hx⟩
     simp only [exitRel] at hx
     subst hx
     simp only [Exit.then]
     split at he
     ·rename_i pend1 en1 ps1 asg1 body1 hget1
      obtain ⟨hid1,h01,rc1,hw1,hl1⟩:=loop_at G1.rel hget1
      have hb1:(β1 id).b=(β id).b:=by rw [(X1.ext.2 id hid).2 (by rw [h0,h01])]
      rw [hb1] at hw1
      obtain ⟨m1,m2,m3,m4,M1,m5,m6,m7,m8⟩:=hl1
      refine ⟨_,run_beginRound hw1 m1,?_⟩
      obtain ⟨R2,X2⟩:=loop_upd G1.rel hid1 hget1 (r:=rc1) (r':={ rc1 with state:=.busy }) (by rw [hb1];exact hw1) (st':=1) (pend':=pend1) ⟨rfl,m2,m3,m4,M1,m5,m6,m7,m8⟩
      rw [hb1] at R2 X2
      have G2:Good P (s1.h.set id (.loop 1 pend1 en1 ps1 asg1 body1)) β1 (w1.putObj (β id).b (.loop { rc1 with state:=.busy })) s1.e a1.tmps:=⟨R2,fun t=>vrel.mono X2.ext (G1.env t),G1.g.ext X2⟩
      cases hx2:ex r body { s1 with h:=s1.h.set id (.loop 1 pend1 en1 ps1 asg1 body1) } with
      | none=>rw [hx2] at he;simp at he
      | some y =>
       obtain ⟨x2,s2⟩:=y
       rw [hx2] at he
       refine sim_code (ρ:=some (β id).b) SC SL hfol rc.body body l8 _ _ _ hx2 β1 _ a1 G2 hN1 _ ?_
       rintro e2 a2 w2 ⟨β2,G3,X3,hd3,hN3,hx⟩
       have fin:∀ (pj:Option AJump),roundEnd id pj s2.h=some (.ret v,h')→∃ v' w',(Instr.endRound (β id).b (pj.map jumpOf)).run P w2=.ok v' w'∧∃ β',Rel h' β' w'∧Ext h β w h' β' w'∧resRel h' β' (.ret v) (.returned v'):=by
        intro pj hre
        unfold roundEnd at hre
        split at hre
        ·rename_i st3 pend3 en3 ps3 asg3 body3 hget3
         simp only [Option.some.injEq,Prod.mk.injEq,ARes.ret.injEq] at hre
         obtain ⟨rfl,rfl⟩:=hre
         obtain ⟨hid3,h03,rc3,hw3,hl3⟩:=loop_at G3.rel hget3
         have hb3:(β2 id).b=(β id).b:=by
          have h02:(s1.h.set id (.loop 1 pend1 en1 ps1 asg1 body1)).gen id=0:=by unfold AHeap.gen;rw [AHeap.get_set_same]
          rw [(X3.ext.2 id (by simpa using hid1)).2 (by rw [h02,h03])];exact hb1
         obtain ⟨q1,q2,q3,q4,M3,q5,q6,q7,q8⟩:=hl3
         have hwb:w2.heap[(β id).b]?=some (.loop rc3):=by rw [←hb3];exact hw3
         have hsn:(pj.map jumpOf).isNone=pj.isNone:=by cases pj<;>rfl
         obtain ⟨R4,X4⟩:=loop_upd G3.rel hid3 hget3 (r:=rc3) (r':={ rc3 with state:=if (pj.map jumpOf).isNone then .ready else .done,pending:=pj.map jumpOf }) hw3 (st':=if pj.isNone then 0 else 2) (pend':=pj) ⟨by
          rw [hsn];cases pj<;>rfl,rfl,q3,q4,M3,q5,q6,q7,q8⟩
         rw [hb3] at R4 X4
         refine ⟨_,_,run_endRound _ hwb,β2,R4,((X1.trans X2).trans X3).trans X4,_,rfl,?_⟩
         rw [hsn]
         simp [vrel]
        ·simp at hre
       cases x2 with
       | normal =>
        simp only [exitRel] at hx
        subst hx
        simp only at he
        obtain ⟨v',w',h1,h2⟩:=fin none he
        exact ⟨v',w',h1,h2⟩
       | ret =>
        simp only [exitRel] at hx
        subst hx
        simp only at he
        obtain ⟨v',w',h1,h2⟩:=fin (some .ret) he
        exact ⟨v',w',h1,h2⟩
       | exit k =>
        simp only [exitRel] at hx
        subst hx
        simp only at he
        obtain ⟨v',w',h1,h2⟩:=fin (some (.exit k)) he
        exact ⟨v',w',h1,h2⟩
       | panic pv=>simp at he
     ·simp at he
    | exit k=>simp at he
    | ret=>simp at he
    | panic pv=>simp at he
  ·simp at he
 ·simp at he
def SoundLoopR (P:Program) (n:Nat) (r:Rec):Prop :=
 ∀ (b:ACode) (s:St) (x:AExit) (s':St),r.code (.loop b) s=some (x,s')→∀ (N:Nat) (mb:Code),cCodeR P N mb=some b →
  ∀ (β:Pl) (w:World) (a:Act),Good P s.h β w s.e a.tmps→N≤a.tmps.size→∀ (Q:Exit→Act→World→Prop),(∀ ex a' w',FinR P N s.h β w a.defers x s' ex a' w'→Q ex a' w') →
   Code.roundsIn (fen none) 0 P mb Q n a w
theorem sim_range {P : Program} {r : Rec} (SC : SoundCall P r) {N : Nat} {f : Operand} {ps : Array Tmp} {assign body : Code} {c : ACode} (hc : cCodeR P N (.rangeFunc f ps assign body) = some c)
    {s:St} {x:AExit} {s':St} (he:ex r c s=some (x,s')) {β:Pl} {w:World} {a:Act} (G:Good P s.h β w s.e a.tmps) (hN:N≤a.tmps.size)
    {Q:Exit→Act→World→Prop} (hQ:∀ e a' w',FinR P N s.h β w a.defers x s' e a' w'→Q e a' w'):(Code.rangeFunc f ps assign body).wpIn (fen none) 0 P Q a w:=by
  simp only [cCodeR] at hc
  split at hc
  case isFalse=>simp at hc
  rename_i hps
  simp only [Option.bind_eq_some_iff,Option.map_eq_some_iff] at hc
  obtain ⟨af,hf,asg,hasg,bd,hbd,rfl⟩:=hc
  simp only [ex] at he
  have rf:=opd_vrel G hf
  split at he
  case h_2=>simp at he
  rename_i g first captured hfv
  rw [hfv] at rf
  simp only [vrel] at rf
  obtain ⟨fv,cv,efv,rfirst,rcap⟩:=rf
  split at he
  case h_2=>simp at he
  rename_i v h' hcl
  have hgetA:∀ (u:World) (o:Obj) (b:Nat),b≠u.heap.size→(u.alloc o).heap[b]?=u.heap[b]?:=fun u o b hb=>by
    show (u.heap.push o)[b]?=_
    rw [Array.getElem?_push,if_neg hb]
  have hfz:∀ (u:World) (o:Obj),o.isCells=false→∀ ad,(u.alloc o).frozen? ad=u.frozen? ad:=fun u o ho ad=>by
    by_cases hlt:ad.block=u.heap.size
    · have e1:(u.alloc o).heap[ad.block]?=some o:=by rw [hlt];exact World.alloc_heap_new u o
      have e2:u.heap[ad.block]?=none:=by rw [hlt];simp
      unfold World.frozen?
      rw [e1,e2]
      cases o<;>first | rfl | cases ho
    · exact frozen_eq (hgetA _ _ _ hlt)
  obtain ⟨wd,hwd⟩:∃ wd,wd=w.alloc (.deferred (some [])):=⟨_,rfl⟩
  have hsz1:wd.heap.size=w.heap.size+1:=by rw [hwd];exact World.size_alloc _ _
  obtain ⟨R1,X1⟩:=Rel.more (w':=wd) G.rel (by omega) (fun b hb=>by rw [hwd];exact hgetA _ _ _ (by omega)) (by rw [hwd];rfl) (by rw [hwd];rfl) (by rw [hwd];exact hfz _ _ rfl)
  refine wpIn_rangeFunc fun fn _=>?_
  obtain ⟨rc,hrc⟩:∃ rc:Loop,rc={ state:=.ready,pending:=none,fn,tmps:=a.tmps,params:=ps,assign,body,defers:=w.heap.size }:=⟨_,rfl⟩
  have hsz2:(wd.alloc (.loop rc)).heap.size=w.heap.size+2:=by rw [World.size_alloc];omega
  have hl2:(wd.alloc (.loop rc)).heap[w.heap.size+1]?=some (.loop rc):=by have:=World.alloc_heap_new wd (.loop rc);rwa [hsz1] at this
  have hD2:(wd.alloc (.loop rc)).heap[w.heap.size]?=some (.deferred (some [])):=(hgetA _ _ _ (by omega)).trans (by rw [hwd];exact World.alloc_heap_new w _)
  obtain ⟨R2,X2⟩:=Rel.new (w':=wd.alloc (.loop rc)) R1 (o:=.loop 0 none s.e ps.toList asg bd) (l:=⟨w.heap.size+1,0,0⟩) (fun _=>by rw [hsz1];exact Nat.le_refl _) (by omega) (fun b hb=>hgetA _ _ _ (by omega)) rfl rfl (hfz _ _ rfl) (fun hx=>⟨rc,hl2,by rw [hrc];rfl,by rw [hrc];rfl,fun t=>by
    rw [hrc];exact vrel.mono hx (G.env t),by rw [hrc],N,by rw [hrc];exact hN,fun t ht=>of_decide_eq_true (List.all_eq_true.1 hps t ht),by rw [AHeap.C_push,G.g.2,hrc];exact hasg,by rw [AHeap.C_push,G.g.2,hrc];exact hbd⟩)
  have X12:=X1.trans X2
  obtain ⟨⟨gn,q1,q2,q3⟩,hsc⟩:=SC.2 _ _ _ _ _ hcl
  refine ⟨w.heap.size+1,[mkD w.heap.size],wd.alloc (.loop rc),{ target:=.fn (.func g) cv,args:=fv++#[.func (.yield (w.heap.size+1)) #[] #[]] },wd.alloc (.loop rc),g,(fv++#[.func (.yield (w.heap.size+1)) #[] #[]])++cv,wd.alloc (.loop rc),?_,?_,fun _ _=>trivial,?_,fun h=>(nomatch h),?_⟩
  · rw [hrc,hwd];exact run_enterLoop_outer _ _ _ _ _
  · simp only [resolve,efv,Deferred.ofValue,Sem.run_bind,Sem.run_pure,Result.andThen_ok,List.map_toArray,List.map_cons,List.map_nil]
    rfl
  · simp only [invoke,run_callFunc_of q1 q2 q3]
  · refine callsIn_wide.2 ((hsc _ _ _ R2 (G.g.ext X12) ?_).mono ?_)
    · simp only [Array.toList_append]
      refine vrels_append (vrels_append (vrels.mono X12.ext rfirst) ?_) (vrels.mono X12.ext rcap)
      exact vrels_cons_cons.2 ⟨by
        simp only [vrel]
        exact ⟨_,rfl,by simp,fun _=>by rw [updP_same]⟩,by simp [vrels]⟩
    · rintro e w2 ⟨β2,R3,X3,v',rfl,hv'⟩
      simp only [rangePost]
      unfold rangeEnd at he
      split at he
      case h_2=>simp at he
      rename_i st pend en ps1 asg1 body1 hget
      simp only at hget
      split at he
      · simp at he
      rename_i hst
      obtain ⟨hid,h0,rc2,hw2,hl⟩:=loop_at R3 hget
      have hb2:(β2 s.h.n).b=w.heap.size+1:=by
        have h00:(s.h.push (.loop 0 none s.e ps.toList asg bd)).gen s.h.n=0:=by unfold AHeap.gen;rw [AHeap.get_push_same]
        rw [(X3.ext.2 s.h.n (by simp)).2 (by rw [h00,h0]),updP_same]
      obtain ⟨m1,m2,m3,m4,M1,m5,m6,m7,m8⟩:=hl
      have hnb:rc2.state≠.busy:=by rw [m1];exact stOf_busy hst
      obtain ⟨R4,X4⟩:=loop_upd R3 hid hget (r:=rc2) (r':={ rc2 with state:=.exhausted }) hw2 (st':=3) (pend':=pend) ⟨rfl,m2,m3,m4,M1,m5,m6,m7,m8⟩
      rw [hb2] at R4 X4 hw2
      have X:=(X12.trans X3).trans X4
      have MK:MarksOk (s.h.push (.loop 0 none s.e ps.toList asg bd)) (updP β s.h.n ⟨w.heap.size+1,0,0⟩) (wd.alloc (.loop rc)) [w.heap.size]:=by
        refine ⟨by simp,fun D hD=>?_⟩
        obtain rfl:D=w.heap.size:=by simpa using hD
        refine ⟨hD2,fun id hid ho=>?_⟩
        by_cases e:id=s.h.n
        · subst e;rw [updP_same];simp
        · rw [updP_ne β _ e]
          rw [AHeap.get_push_ne _ _ e] at ho
          have:=(G.rel.obj id (by simp at hid;omega)).lt (AObj.real_of_own ho)
          omega
      have MK4:=(MK.ext X3).ext X4
      refine ⟨rc2.pending,_,run_endLoop hw2 hnb,?_⟩
      have fin:∀ (x0:AExit) (ex0:Exit),x=x0→s'={ s with h:=h'.set s.h.n (.loop 3 pend en ps1 asg1 body1) }→exitRel s'.h β2 x0 ex0→Q ex0 { a with defers:=[mkD w.heap.size]++a.defers } (w2.putObj (w.heap.size+1) (.loop { rc2 with state:=.exhausted })):=by
        rintro x0 ex0 rfl rfl hx
        exact hQ _ _ _ ⟨β2,[w.heap.size],⟨R4,fun t=>vrel.mono X.ext (G.env t),G.g.ext X⟩,X,rfl,MK4,fun D hD=>by simp at hD;omega,hN,hx⟩
      generalize (w2.putObj (w.heap.size+1) (.loop { rc2 with state:=.exhausted }))=w4 at fin ⊢
      rw [m2]
      cases pend with
      | none =>
        simp only [Option.some.injEq,Prod.mk.injEq] at he
        exact fin .normal .normal he.1.symm he.2.symm rfl
      | some j =>
        simp only [Option.some.injEq,Prod.mk.injEq] at he
        cases j with
        | ret=>exact wpIn_ret (fin .ret .ret he.1.symm he.2.symm rfl)
        | exit id=>exact wpIn_exit (fin (.exit id) (.exit id) he.1.symm he.2.symm rfl)
theorem sim_codeR {P : Program} {r : Rec} {n : Nat} (SC : SoundCall P r) (SL : SoundLoop P n r) (SLR : SoundLoopR P n r) {N : Nat} (hfol : P.follows .mixedOrders = true) : ∀ (mc : Code) (c : ACode), cCodeR P N mc = some c →
    ∀ (s:St) (x:AExit) (s':St),ex r c s=some (x,s')→∀ (β:Pl) (w:World) (a:Act),Good P s.h β w s.e a.tmps→N≤a.tmps.size →
      ∀ (Q:Exit→Act→World→Prop),(∀ e a' w',FinR P N s.h β w a.defers x s' e a' w'→Q e a' w')→mc.wpIn (fen none) 0 P Q a w:=by
  intro mc
  induction mc with
  | skip =>
    intro c hc s x s' he β w a G hN Q hQ
    exact sim_code (ρ:=none) SC SL hfol _ c hc s x s' he β w a G hN Q (fun e a' w' F=>hQ e a' w' (.of F))
  | exit id =>
    intro c hc s x s' he β w a G hN Q hQ
    exact sim_code (ρ:=none) SC SL hfol _ c hc s x s' he β w a G hN Q (fun e a' w' F=>hQ e a' w' (.of F))
  | ret =>
    intro c hc s x s' he β w a G hN Q hQ
    exact sim_code (ρ:=none) SC SL hfol _ c hc s x s' he β w a G hN Q (fun e a' w' F=>hQ e a' w' (.of F))
  | region id ops draw =>
    intro c hc s x s' he β w a G hN Q hQ
    exact sim_code (ρ:=none) SC SL hfol _ c hc s x s' he β w a G hN Q (fun e a' w' F=>hQ e a' w' (.of F))
  | seq p q ihp ihq =>
    intro c hc s x s' he β w a G hN Q hQ
    simp only [cCodeR,Option.bind_eq_some_iff,Option.map_eq_some_iff] at hc
    obtain ⟨cp,hp,cq,hq,rfl⟩:=hc
    simp only [ex] at he
    refine wpIn_seq ?_
    cases hp1:ex r cp s with
    | none=>rw [hp1] at he;simp at he
    | some y =>
      obtain ⟨x1,s1⟩:=y
      rw [hp1] at he
      refine ihp cp hp s x1 s1 hp1 β w a G hN _ ?_
      intro e a1 w1 F
      cases x1 with
      | normal =>
        simp only at he
        have F':=F
        obtain ⟨β1,Ds1,G1,X1,hd1,M1,hD1,hN1,hx1⟩:=F
        simp only [exitRel] at hx1
        subst hx1
        simp only [Exit.then]
        exact ihq cq hq s1 x s' he β1 w1 a1 G1 hN1 Q (fun e a' w' F2=>hQ e a' w' (by rw [hd1] at F2;exact FinR.trans X1 M1 hD1 F2))
      | exit id =>
        simp only [Option.some.injEq,Prod.mk.injEq] at he
        obtain ⟨rfl,rfl⟩:=he
        have F':=F
        obtain ⟨β1,Ds1,G1,X1,hd1,M1,hD1,hN1,hx1⟩:=F
        simp only [exitRel] at hx1
        subst hx1
        exact hQ _ _ _ F'
      | ret =>
        simp only [Option.some.injEq,Prod.mk.injEq] at he
        obtain ⟨rfl,rfl⟩:=he
        have F':=F
        obtain ⟨β1,Ds1,G1,X1,hd1,M1,hD1,hN1,hx1⟩:=F
        simp only [exitRel] at hx1
        subst hx1
        exact hQ _ _ _ F'
      | panic v =>
        simp only [Option.some.injEq,Prod.mk.injEq] at he
        obtain ⟨rfl,rfl⟩:=he
        have F':=F
        obtain ⟨β1,Ds1,G1,X1,hd1,M1,hD1,hN1,v',hx1,_⟩:=F
        subst hx1
        exact hQ _ _ _ F'
  | cond c0 p q ihp ihq =>
    intro c hc s x s' he β w a G hN Q hQ
    simp only [cCodeR,Option.bind_eq_some_iff,Option.map_eq_some_iff] at hc
    obtain ⟨cc,h1,cp,hp,cq,hq,rfl⟩:=hc
    simp only [ex] at he
    have rc:=opd_vrel G h1
    split at he
    · rename_i hb
      rw [hb] at rc
      simp only [vrel] at rc
      exact wpIn_cond_true rc (ihp cp hp s x s' he β w a G hN Q hQ)
    · rename_i hb
      rw [hb] at rc
      simp only [vrel] at rc
      exact wpIn_cond_false rc (ihq cq hq s x s' he β w a G hN Q hQ)
    · simp at he
  | block id b ih =>
    intro c hc s x s' he β w a G hN Q hQ
    simp only [cCodeR,Option.map_eq_some_iff] at hc
    obtain ⟨cb,hb,rfl⟩:=hc
    simp only [ex] at he
    refine wpIn_block ?_
    cases hp1:ex r cb s with
    | none=>rw [hp1] at he;simp at he
    | some y =>
      obtain ⟨x1,s1⟩:=y
      rw [hp1] at he
      refine ih cb hb s x1 s1 hp1 β w a G hN _ ?_
      intro e a1 w1 F
      cases x1 with
      | normal =>
        simp only [Option.some.injEq,Prod.mk.injEq] at he
        obtain ⟨rfl,rfl⟩:=he
        have F':=F
        obtain ⟨β1,Ds1,G1,X1,hd1,M1,hD1,hN1,hx1⟩:=F
        simp only [exitRel] at hx1
        subst hx1
        exact hQ _ _ _ F'
      | exit id' =>
        obtain ⟨β1,Ds1,G1,X1,hd1,M1,hD1,hN1,hx1⟩:=F
        simp only [exitRel] at hx1
        subst hx1
        simp only [Exit.inBlock]
        simp only at he
        split at he
        · rename_i hid
          simp only [Option.some.injEq,Prod.mk.injEq] at he
          obtain ⟨rfl,rfl⟩:=he
          rw [if_pos hid]
          exact hQ _ _ _ ⟨β1,Ds1,G1,X1,hd1,M1,hD1,hN1,rfl⟩
        · rename_i hid
          simp only [Option.some.injEq,Prod.mk.injEq] at he
          obtain ⟨rfl,rfl⟩:=he
          rw [if_neg hid]
          exact hQ _ _ _ ⟨β1,Ds1,G1,X1,hd1,M1,hD1,hN1,rfl⟩
      | ret =>
        simp only [Option.some.injEq,Prod.mk.injEq] at he
        obtain ⟨rfl,rfl⟩:=he
        have F':=F
        obtain ⟨β1,Ds1,G1,X1,hd1,M1,hD1,hN1,hx1⟩:=F
        simp only [exitRel] at hx1
        subst hx1
        exact hQ _ _ _ F'
      | panic v =>
        simp only [Option.some.injEq,Prod.mk.injEq] at he
        obtain ⟨rfl,rfl⟩:=he
        have F':=F
        obtain ⟨β1,Ds1,G1,X1,hd1,M1,hD1,hN1,v',hx1,_⟩:=F
        subst hx1
        exact hQ _ _ _ F'
  | loop b ih =>
    intro c hc s x s' he β w a G hN Q hQ
    simp only [cCodeR,Option.map_eq_some_iff] at hc
    obtain ⟨cb,hb,rfl⟩:=hc
    simp only [ex] at he
    refine wpIn_loop_rounds (n+1) ?_
    rw [roundsIn_succ]
    cases hp1:ex r cb s with
    | none=>rw [hp1] at he;simp at he
    | some y =>
      obtain ⟨x1,s1⟩:=y
      rw [hp1] at he
      refine ih cb hb s x1 s1 hp1 β w a G hN _ ?_
      intro e a1 w1 F
      cases x1 with
      | normal =>
        simp only at he
        obtain ⟨β1,Ds1,G1,X1,hd1,M1,hD1,hN1,hx1⟩:=F
        simp only [exitRel] at hx1
        subst hx1
        simp only [Exit.then]
        exact SLR cb s1 x s' he N b hb β1 w1 a1 G1 hN1 Q (fun e a' w' F2=>hQ e a' w' (by rw [hd1] at F2;exact FinR.trans X1 M1 hD1 F2))
      | exit id =>
        simp only [Option.some.injEq,Prod.mk.injEq] at he
        obtain ⟨rfl,rfl⟩:=he
        have F':=F
        obtain ⟨β1,Ds1,G1,X1,hd1,M1,hD1,hN1,hx1⟩:=F
        simp only [exitRel] at hx1
        subst hx1
        exact hQ _ _ _ F'
      | ret =>
        simp only [Option.some.injEq,Prod.mk.injEq] at he
        obtain ⟨rfl,rfl⟩:=he
        have F':=F
        obtain ⟨β1,Ds1,G1,X1,hd1,M1,hD1,hN1,hx1⟩:=F
        simp only [exitRel] at hx1
        subst hx1
        exact hQ _ _ _ F'
      | panic v =>
        simp only [Option.some.injEq,Prod.mk.injEq] at he
        obtain ⟨rfl,rfl⟩:=he
        have F':=F
        obtain ⟨β1,Ds1,G1,X1,hd1,M1,hD1,hN1,v',hx1,_⟩:=F
        subst hx1
        exact hQ _ _ _ F'
  | rangeFunc f ps p q ihp ihq =>
    intro c hc s x s' he β w a G hN Q hQ
    exact sim_range SC hc he G hN hQ
  | scope b ih=>intro c hc;simp [cCodeR] at hc
  | label l=>intro c hc;simp [cCodeR] at hc
  | goto l=>intro c hc;simp [cCodeR] at hc
  | refuse y=>intro c hc;simp [cCodeR] at hc
/-! At a function's end. -/
theorem frozen_putObj (w:World) {b:Nat} {o o':Option (List Deferred)} (h:w.heap[b]?=some (.deferred o)) (a:Addr):(w.putObj b (.deferred o')).frozen? a=w.frozen? a:=by
  have hlt:=(Array.getElem?_eq_some_iff.1 h).1
  by_cases e:a.block=b
  · subst e
    unfold World.frozen?
    rw [World.putObj_heap_same hlt,h]
  · exact frozen_eq (World.putObj_heap_other e)
theorem mark_take {h:AHeap} {β:Pl} {w:World} (R:Rel h β w) {D:Nat} (hD:w.heap[D]?=some (.deferred (some []))):Rel h β (w.putObj D (.deferred none)):=by
 refine ⟨fun j hj=>(R.obj j hj).mono (HExt.refl h β) (fun hr=>World.putObj_heap_other ?_),R.inj,R.top,R.glob⟩
 intro e
 have:=R.obj j hj
 generalize h.get j=o at this hr
 cases o with
 | hole=>cases hr
 | cells g ro vs=>obtain ⟨c,ty,fz,q,_⟩:=this;rw [e,hD] at q;cases q
 | map es=>obtain ⟨fs,k,q,_⟩:=this;rw [e,hD] at q;cases q
 | loop st pend en ps asg body=>obtain ⟨rc,q,_⟩:=this;rw [e,hD] at q;cases q
theorem mark_ext {h0:AHeap} {β0:Pl} {w0:World} {h:AHeap} {β:Pl} {w:World} (X:Ext h0 β0 w0 h β w) {D:Nat} (hD:w.heap[D]?=some (.deferred (some []))) (hge:w0.heap.size≤D):Ext h0 β0 w0 h β (w.putObj D (.deferred none)) where
 ext:=X.ext
 size:=by rw [World.putObj_size];exact X.size
 keep:=fun b hb hk=>(World.putObj_heap_other (by omega)).trans (X.keep b hb hk)
 ro:=X.ro
 own:=X.own
 os:=X.os
 out:=X.out
 gl:=X.gl
 fz:=fun a=>(frozen_putObj w hD a).trans (X.fz a)
theorem leaves_marks {P : Program} {fn : Func} {tmps : Array Value} {Rr : Ending → World → Prop} {u : FrameMode} (hu : u ≠ .run) {h : AHeap} {β : Pl} {w : World} {h1 : AHeap} {β1 : Pl}
    (K:∀ w2,Rel h1 β1 w2→Ext h β w h1 β1 w2→LeavesIn (fen none) 0 P fn tmps Rr [] u w2) :
    ∀ (Ds:List Nat) (w1:World),Rel h1 β1 w1→Ext h β w h1 β1 w1→MarksOk h1 β1 w1 Ds→(∀ D,D∈Ds→w.heap.size≤D)→LeavesInM (fen none) 0 P fn tmps Rr (Ds.map mkD) u w1
  | [],w1,R,X,M,hD=>K w1 R X
  | D::Ds,w1,R,X,M,hD=>by
    have m1:=(M.2 D List.mem_cons_self).1
    refine ⟨hu,.inl ⟨D,_,rfl,run_takeDeferred m1,?_⟩⟩
    refine leaves_marks hu K Ds _ (mark_take R m1) (mark_ext X m1 (hD D List.mem_cons_self)) ⟨(List.nodup_cons.1 M.1).2,fun D' hD'=>?_⟩ fun D' hD'=>hD D' (List.mem_cons_of_mem _ hD')
    obtain ⟨a1,a2⟩:=M.2 D' (List.mem_cons_of_mem _ hD')
    exact ⟨(World.putObj_heap_other (by rintro rfl;exact (List.nodup_cons.1 M.1).1 hD')).trans a1,a2⟩
theorem sim_call {P:Program} {AP:AProg} (ok:ProgOk P AP) {r:Rec} {n:Nat} (SC:SoundCall P r) (SL:SoundLoop P n r) (SLR:SoundLoopR P n r) (ST:SoundLate P r):SoundCall P { code:=ex r,call:=callF AP r,late:=lateF AP r,yld:=yldF r }:=by
  refine ⟨sim_yld SC SL ok.fol rfl,?_⟩
  intro f args h res h' he
  simp only [callF] at he
  split at he
  · simp at he
  · rename_i afn hf
    obtain ⟨fn,q1,q2,q3⟩:=ok.fn f afn hf
    simp only [cFun,Option.bind_eq_some_iff] at q3
    obtain ⟨c,hbody,ars,hars,q3⟩:=q3
    refine ⟨⟨fn,q1,q2,by rw [hbody];rfl⟩,?_⟩
    intro β w vs R hg hv
    have G:=good_enter R hg hv fn.ntmps
    have hN:fn.ntmps≤(vs++Array.replicate (fn.ntmps-vs.size) undef).size:=by simp;omega
    split at q3
    ·
      rename_i b hb
      simp only [Option.some.injEq] at q3
      subst q3
      simp only at he
      refine calls_of_wp q1 hbody (wpIn_wide (n:=0).1 ?_)
      cases hx:ex r b { e:=envOf 0 args,h:=h } with
      | none=>rw [hx] at he;simp at he
      | some y =>
        obtain ⟨x,s'⟩:=y
        rw [hx] at he
        refine sim_code (ρ:=none) SC SL ok.fol c b hb _ x s' hx β w { tmps:=vs++Array.replicate (fn.ntmps-vs.size) undef,defers:=[] } G hN _ ?_
        intro e a' w' F
        obtain ⟨β1,G1,X1,hd1,hN1,hx1⟩:=F
        cases x with
        | normal =>
          simp only [Option.map_eq_some_iff,Prod.mk.injEq] at he
          obtain ⟨v,hv',rfl,rfl⟩:=he
          simp only [exitRel] at hx1
          subst hx1
          obtain ⟨xv,hxr,hxv⟩:=results_run G1 hars hv'
          exact ⟨hd1,xv,hxr,β1,G1.rel,X1,xv,rfl,hxv⟩
        | ret =>
          simp only [Option.map_eq_some_iff,Prod.mk.injEq] at he
          obtain ⟨v,hv',rfl,rfl⟩:=he
          simp only [exitRel] at hx1
          subst hx1
          obtain ⟨xv,hxr,hxv⟩:=results_run G1 hars hv'
          exact ⟨hd1,xv,hxr,β1,G1.rel,X1,xv,rfl,hxv⟩
        | exit id=>simp at he
        | panic v =>
          simp only [Option.some.injEq,Prod.mk.injEq] at he
          obtain ⟨rfl,rfl⟩:=he
          obtain ⟨xv,hx2,hxv⟩:=hx1
          subst hx2
          exact ⟨hd1,β1,G1.rel,X1,xv,rfl,hxv⟩
    · split at q3
      ·
        rename_i p x t hl
        simp only [Option.some.injEq] at q3
        subst q3
        simp only at he
        refine calls_of_wp_defers q1 hbody (wpIn_wide (n:=0).1 ?_)
        have fin : ∀ (g : FuncId) (first captured : List AVal) (fv cv : Array Value) (β1 : Pl) (w1 : World) (s2 : St) (β2 : Pl) (a2 : Act) (w2 : World) (pan : Option AVal) (u : FrameMode) (s1h : AHeap),
            Good P s2.h β2 w2 s2.e a2.tmps→Ext h β w s2.h β2 w2→a2.defers=[{ target:=.fn (.func g) cv,args:=fv++#[] }]→vrels s1h β1 first fv.toList→vrels s1h β1 captured cv.toList→HExt s1h β1 s2.h β2 →
            u≠.run→(match pan with
              | none=>u=.returning
              | some v=>∃ x,u=.panicking [{ v:=x,recovered:=false }]∧vrel s2.h β2 v x) →
            ((r.late g (first++captured) pan s2.h).bind fun h3=>(resOf { s2 with h:=h3 } ars).map fun v=>(ARes.ret v,h3))=some (res,h') →
            Leaves P fn a2.tmps (fun e w'=>∃ β',Rel h' β' w'∧Ext h β w h' β' w'∧resRel h' β' res e) a2.defers u w2:=by
          intro g first captured fv cv β1 w1 s2 β2 a2 w2 pan u s1h G2 X2 hd2 r1 r2 hx12 hu hpan hl
          simp only [Option.bind_eq_some_iff,Option.map_eq_some_iff,Prod.mk.injEq] at hl
          obtain ⟨h3,hlt,v,hv',rfl,rfl⟩:=hl
          obtain ⟨⟨gn,g1,g2,g3⟩,hlate⟩:=ST _ _ _ _ _ hlt
          rw [hd2]
          refine leaves_cons hu (f:=g) (args:=(fv++#[])++cv) ?_ ?_
          · simp only [invoke,run_callFunc_of g1 g2 g3]
          · refine (hlate β2 w2 ((fv++#[])++cv) u G2.rel G2.g ?_ hpan).mono ?_
            · simp only [Array.append_empty,Array.toList_append]
              exact vrels_append (vrels.mono hx12 r1) (vrels.mono hx12 r2)
            · rintro e u' w' ⟨⟨xv,rfl⟩,hset,β3,R3,X3⟩
              simp only
              rw [hset]
              have G3:Good P h3 β3 w' s2.e a2.tmps:=⟨R3,fun t=>vrel.mono X3.ext (G2.env t),G2.g.ext X3⟩
              obtain ⟨rv,hrr,hrv⟩:=results_run (s:={ s2 with h:=h3 }) (a:=a2) G3 hars hv'
              exact ⟨rv,hrr,β3,R3,X2.trans X3,rv,rfl,hrv⟩
        cases hx:ex r p { e:=envOf 0 args,h:=h } with
        | none=>rw [hx] at he;simp at he
        | some y =>
          obtain ⟨x1,s1⟩:=y
          rw [hx] at he
          refine sim_late SC SL ok.fol c p x t hl _ x1 s1 hx ?_ β w { tmps:=vs++Array.replicate (fn.ntmps-vs.size) undef,defers:=[] } G hN _ ?_ ?_
          · rintro rfl
            simp only at he
            split at he
            · rename_i g first captured hfn
              exact ⟨g,first,captured,hfn⟩
            · simp at he
          · intro hn e a' w' F
            obtain ⟨β1,G1,X1,hd1,hN1,hx1⟩:=F
            cases x1 with
            | normal=>exact absurd rfl hn
            | ret =>
              simp only [Option.map_eq_some_iff,Prod.mk.injEq] at he
              obtain ⟨v,hv',rfl,rfl⟩:=he
              simp only [exitRel] at hx1
              subst hx1
              obtain ⟨xv,hxr,hxv⟩:=results_run G1 hars hv'
              simp only [bodyPostD,hd1]
              exact ⟨xv,hxr,β1,G1.rel,X1,xv,rfl,hxv⟩
            | exit id=>simp at he
            | panic v =>
              simp only [Option.some.injEq,Prod.mk.injEq] at he
              obtain ⟨rfl,rfl⟩:=he
              obtain ⟨xv,hx2,hxv⟩:=hx1
              subst hx2
              simp only [bodyPostD,hd1]
              exact ⟨β1,G1.rel,X1,xv,rfl,hxv⟩
          · rintro rfl mt hmt β1 w1 a1 g first captured fv cv hfn r1 r2 G1 hN1 X1 hd1
            simp only [hfn] at he
            cases hx2:ex r t s1 with
            | none=>rw [hx2] at he;simp at he
            | some y2 =>
              obtain ⟨x2,s2⟩:=y2
              rw [hx2] at he
              refine sim_code (ρ:=none) SC SL ok.fol mt t hmt _ x2 s2 hx2 β1 w1 a1 G1 hN1 _ ?_
              rintro e a2 w2 ⟨β2,G2,X2,hd2,hN2,hx2'⟩
              cases x2 with
              | normal =>
                simp only [exitRel] at hx2'
                subst hx2'
                exact fin g first captured fv cv β1 w1 s2 β2 a2 w2 none .returning s1.h G2 (X1.trans X2) (by rw [hd2,hd1]) r1 r2 X2.ext (by intro h;cases h) rfl he
              | ret =>
                simp only [exitRel] at hx2'
                subst hx2'
                exact fin g first captured fv cv β1 w1 s2 β2 a2 w2 none .returning s1.h G2 (X1.trans X2) (by rw [hd2,hd1]) r1 r2 X2.ext (by intro h;cases h) rfl he
              | exit id=>simp at he
              | panic v =>
                obtain ⟨xv,hx3,hxv⟩:=hx2'
                subst hx3
                exact fin g first captured fv cv β1 w1 s2 β2 a2 w2 (some v) (.panicking [{ v:=xv,recovered:=false }]) s1.h G2 (X1.trans X2) (by rw [hd2,hd1]) r1 r2 X2.ext (by intro h;cases h) ⟨xv,rfl,hxv⟩ he
      · split at q3
        · rename_i d b _
          simp only [Option.some.injEq] at q3
          subst q3
          simp at he
        ·
          simp only [Option.map_eq_some_iff] at q3
          obtain ⟨b,hb,rfl⟩:=q3
          simp only at he
          refine callsIn_wide.1 (callsIn_of_wp_marks (F:=fen none) (n:=0) q1 hbody trivial ?_)
          cases hx:ex r b { e:=envOf 0 args,h:=h } with
          | none=>rw [hx] at he;simp at he
          | some y =>
            obtain ⟨x,s'⟩:=y
            rw [hx] at he
            refine sim_codeR SC SL SLR ok.fol c b hb _ x s' hx β w { tmps:=vs++Array.replicate (fn.ntmps-vs.size) undef,defers:=[] } G hN _ ?_
            intro e a' w' F
            obtain ⟨β1,Ds,G1,X1,hd1,M1,hD1,hN1,hx1⟩:=F
            rw [List.append_nil] at hd1
            have back:(resOf s' ars).map (fun v=>(ARes.ret v,s'.h))=some (res,h')→LeavesInM (fen none) 0 P fn a'.tmps (fun e w'=>∃ β',Rel h' β' w'∧Ext h β w h' β' w'∧resRel h' β' res e) a'.defers .returning w':=by
              intro he
              simp only [Option.map_eq_some_iff,Prod.mk.injEq] at he
              obtain ⟨v,hv',rfl,rfl⟩:=he
              rw [hd1]
              refine leaves_marks (by intro q;cases q) (h:=h) (β:=β) (w:=w) (fun w2 R2 X2=>?_) Ds w' G1.rel X1 M1 hD1
              obtain ⟨xv,hxr,hxv⟩:=results_run (w:=w2) (a:=a') ⟨R2,G1.env,G1.g⟩ hars hv'
              exact ⟨xv,hxr,β1,R2,X2,xv,rfl,hxv⟩
            cases x with
            | normal =>
              simp only [exitRel] at hx1
              subst hx1
              exact back he
            | ret =>
              simp only [exitRel] at hx1
              subst hx1
              exact back he
            | exit id=>simp at he
            | panic v =>
              simp only [Option.some.injEq,Prod.mk.injEq] at he
              obtain ⟨rfl,rfl⟩:=he
              obtain ⟨xv,hx2,hxv⟩:=hx1
              subst hx2
              simp only [bodyPostM]
              rw [hd1]
              refine leaves_marks (by intro q;cases q) (h:=h) (β:=β) (w:=w) (fun w2 R2 X2=>?_) Ds w' G1.rel X1 M1 hD1
              exact ⟨β1,R2,X2,xv,rfl,hxv⟩
theorem sim_plainS {P : Program} {r : Rec} {N : Nat} {ops : Array Oper} {Q : Exit → Act → List Frame → World → Prop} {cs : List Frame} : ∀ (os : List Oper) (is : List AInstr) (k : Nat), (∀ (j : Nat) (o : Oper), os[j]? = some o → ops[k + j]? = some o) → cInstrs P N ops os = some is → is.all AInstr.plain = true →
    ∀ (s:St) (x:AExit) (s':St),exIs r is s=some (x,s')→∀ (β:Pl) (w:World) (a:Act),Good P s.h β w s.e a.tmps→N≤a.tmps.size →
      (x=.normal→∀ a' w',Fin P N s.h β w a.defers .normal s' .normal a' w'→Q .normal a' cs w')→wpOpsS P ops Q (List.range' k os.length) a cs w
  | [],is,k,hd,hc,hp,s,x,s',he,β,w,a,G,hN,hT=>by
    simp only [cInstrs,Option.some.injEq] at hc
    subst hc
    simp only [exIs,Option.some.injEq,Prod.mk.injEq] at he
    obtain ⟨rfl,rfl⟩:=he
    simp only [List.length_nil,List.range'_zero,wpOpsS]
    exact hT rfl _ _ ⟨β,G,Ext.refl _ _ _,rfl,hN,rfl⟩
  | o::os,is,k,hd,hc,hp,s,x,s',he,β,w,a,G,hN,hT=>by
    simp only [cInstrs,Option.bind_eq_some_iff,Option.map_eq_some_iff] at hc
    obtain ⟨i,hi,is',hc',rfl⟩:=hc
    simp only [List.all_cons,Bool.and_eq_true] at hp
    have hdrop:∀ (j:Nat) (o':Oper),os[j]?=some o'→ops[(k+1)+j]?=some o':=fun j o' h=>by
      have:=hd (j+1) o' (by simpa using h)
      rwa [show k+(j+1)=(k+1)+j by omega] at this
    have hok:ops[k]?=some o:=by simpa using hd 0 o rfl
    obtain ⟨c1,c2,c3,c4,c5⟩:=cInstr_parts hi
    simp only [List.length_cons,List.range'_succ,wpOpsS,hok]
    simp only [exIs] at he
    cases hw:wanted s.e i.guard with
    | none=>simp only [hw] at he;simp at he
    | some wb =>
      simp only [hw] at he
      have hwd:=wanted_of G c4 hN c5 hw rfl
      have hdN:∀ d,o.dst=some d→d<N:=fun d h=>c2 d (by rw [c1];exact h)
      cases wb with
      | false =>
        rw [if_neg (by rw [hwd];simp)]
        simp only at he
        obtain ⟨G',hN',hds⟩:=put_good (dst:=o.dst) (av:=.tup []) (v:=undef) G G.rel (Ext.refl _ _ _) hN hdN (by simp [vrel,vrels,undef])
        exact sim_plainS os is' (k+1) hdrop hc' hp.2 _ x s' (by rw [c1] at he;exact he) β w _ G' hN' (fun hx a' w' F=>hT hx a' w' (by rw [hds] at F;exact F))
      | true =>
        rw [if_pos hwd]
        simp only at he
        have hpl:=hp.1
        unfold AInstr.plain at hpl
        split at hpl
        · rename_i op hop
          simp only [hop] at he
          rw [hop] at c3
          split at he
          · rename_i av h1 ha
            obtain ⟨w1,β1,hrun,R1,X1⟩:=sim_op G (cOp_plain c3) ha
            rcases hrun with ⟨v,hrun,hv⟩ | ⟨hrun,hav⟩
            · rw [hrun]
              simp only [Oper.upon_value]
              obtain ⟨G',hN',hds⟩:=put_good (dst:=o.dst) (av:=av) (v:=v) G R1 X1 hN hdN hv
              exact sim_plainS os is' (k+1) hdrop hc' hp.2 _ x s' (by rw [c1] at he;exact he) β1 w1 _ G' hN' (fun hx a' w' F=>hT hx a' w' (by rw [hds] at F;exact F.trans X1))
            · rw [hrun]
              simp only [Oper.upon_skip]
              obtain ⟨G',hN',hds⟩:=put_good (dst:=o.dst) (av:=av) (v:=undef) G R1 X1 hN hdN (by rw [hav];simp [vrel])
              exact sim_plainS os is' (k+1) hdrop hc' hp.2 _ x s' (by rw [c1] at he;exact he) β1 w1 _ G' hN' (fun hx a' w' F=>hT hx a' w' (by rw [hds] at F;exact F.trans X1))
          · simp at he
        · cases hpl
theorem isRecover_of {o:Oper} (h:isRecover o=true):∃ c,o.op=.call c∧o.guard=none∧c.callee=.builtin .recover:=by
 unfold isRecover at h
 split at h
 ·rename_i c h1 h2
  split at h
  ·rename_i h3;exact ⟨c,h1,h2,h3⟩
  ·cases h
 ·cases h
theorem sim_rcv {P:Program} {AP:AProg} (ok:ProgOk P AP) {r:Rec} {n:Nat} (SC:SoundCall P r) (SL:SoundLoop P n r):SoundLate P { code:=ex r,call:=callF AP r,late:=lateF AP r,yld:=yldF r }:=by
  intro f args pan h h' he
  simp only [lateF] at he
  split at he
  · simp at he
  · rename_i afn hf
    obtain ⟨fn,q1,q2,q3⟩:=ok.fn f afn hf
    simp only [cFun,Option.bind_eq_some_iff] at q3
    obtain ⟨c,hbody,ars,hars,q3⟩:=q3
    refine ⟨⟨fn,q1,q2,by rw [hbody];rfl⟩,?_⟩
    intro β w vs u R hg hv hu
    have G:=good_enter R hg hv fn.ntmps
    have hN:fn.ntmps≤(vs++Array.replicate (fn.ntmps-vs.size) undef).size:=by simp;omega
    split at q3
    · simp only [Option.some.injEq] at q3
      subst q3
      simp at he
    · split at q3
      · simp only [Option.some.injEq] at q3
        subst q3
        simp at he
      · split at q3
        case h_2 =>
          simp only [Option.map_eq_some_iff] at q3
          obtain ⟨b,_,rfl⟩:=q3
          simp at he
        rename_i d b hr
        simp only [Option.some.injEq] at q3
        subst q3
        simp only at he
        unfold cRcv at hr
        split at hr
        · rename_i id ops cb _ _
          split at hr
          · rename_i o os hops
            split at hr
            · rename_i hcond
              simp only [Option.bind_eq_some_iff] at hr
              obtain ⟨is,his,hr⟩:=hr
              split at hr
              · rename_i hpl
                simp only [Option.map_eq_some_iff,Prod.mk.injEq] at hr
                obtain ⟨t,ht,rfl,rfl⟩:=hr
                obtain ⟨cc,ho1,ho2,ho3⟩:=isRecover_of hcond.1
                have hdN:∀ dd,o.dst=some dd→dd<fn.ntmps:=by
                  intro dd hdd
                  have:=hcond.2
                  rw [hdd] at this
                  simpa [dstOk] using this
                refine callsD_of_wpS q1 hbody fun c₀ cs hmode=>?_
                refine wpS_seq (wpS_region ?_)
                have hsz:ops.size=os.length+1:=by
                  have:ops.toList.length=os.length+1:=by rw [hops];simp
                  simpa using this
                have h0:ops[0]?=some o:=by
                  have:ops.toList[0]?=some o:=by rw [hops];rfl
                  simpa using this
                have hget:∀ (j:Nat) (o':Oper),os[j]?=some o'→ops[1+j]?=some o':=by
                  intro j o' h
                  have:ops.toList[1+j]?=some o':=by rw [hops,Nat.add_comm,List.getElem?_cons_succ];exact h
                  simpa using this
                have hrange:List.range ops.size=0::List.range' 1 os.length:=by
                  rw [hsz,List.range_eq_range',List.range'_succ]
                rw [hrange]
                simp only [wpOpsS,h0]
                have hw:Region.wanted o (yielded ops (vs++Array.replicate (fn.ntmps-vs.size) undef))=true:=by simp [Region.wanted,ho2]
                rw [if_pos hw]
                have hrun:(execOp ({ tmps:=vs++Array.replicate (fn.ntmps-vs.size) undef,defers:=[] }:Act).eval o).run P w=.ok .recover w:=by
                  unfold execOp
                  rw [ho1]
                  simp only [resolve,ho3,Sem.run_bind,Sem.run_pure,Result.andThen_ok,invoke,builtin]
                rw [hrun]
                simp only
                have main : ∀ (x : Value) (u' : FrameMode), vrel h β (pan.getD .nili) x → settle u' = .returning →
                    wpOpsS P ops (Exit.thenS (cb.wpS P (bodyPostS P fn c₀ cs fun e u' w'=>(∃ v,e=.returned v)∧settle u'=.returning∧∃ β',Rel h' β' w'∧Ext h β w h' β' w')) (bodyPostS P fn c₀ cs fun e u' w'=>(∃ v,e=.returned v)∧settle u'=.returning∧∃ β',Rel h' β' w'∧Ext h β w h' β' w'))
                      (List.range' 1 os.length) (({ tmps:=vs++Array.replicate (fn.ntmps-vs.size) undef,defers:=[] }:Act).put o.dst x) ({ c₀ with mode:=u' }::cs) w:=by
                  intro x u' hx hset
                  obtain ⟨G',hN',hds⟩:=put_good (N:=fn.ntmps) (a:={ tmps:=vs++Array.replicate (fn.ntmps-vs.size) undef,defers:=[] }) (dst:=o.dst) (av:=pan.getD .nili) (v:=x) G G.rel (Ext.refl _ _ _) hN hdN hx
                  cases hx1:exIs r is { e:=put (envOf 0 args) o.dst (pan.getD .nili),h:=h } with
                  | none=>simp only [ex,hx1] at he;simp at he
                  | some y =>
                    obtain ⟨x1,s1⟩:=y
                    refine sim_plainS os is 1 hget his hpl _ x1 s1 hx1 β w _ G' hN' ?_
                    rintro rfl a1 w1 ⟨β1,G1,X1,hd1,hN1,_⟩
                    simp only [Exit.thenS]
                    simp only [ex,hx1] at he
                    refine wpS_of_wp (wpIn_wide (n:=0).1 ?_)
                    cases hx2:ex r t s1 with
                    | none=>rw [hx2] at he;simp at he
                    | some y2 =>
                      obtain ⟨x2,s2⟩:=y2
                      rw [hx2] at he
                      refine sim_code (ρ:=none) SC SL ok.fol cb t ht _ x2 s2 hx2 β1 w1 a1 G1 hN1 _ ?_
                      rintro e a2 w2 ⟨β2,G2,X2,hd2,hN2,hx2'⟩
                      cases x2 with
                      | normal =>
                        simp only [Option.map_eq_some_iff] at he
                        obtain ⟨v,hv',rfl⟩:=he
                        simp only [exitRel] at hx2'
                        subst hx2'
                        obtain ⟨rv,hrr,hrv⟩:=results_run G2 hars hv'
                        exact ⟨by rw [hd2,hd1,hds],u',rfl,rv,hrr,⟨rv,rfl⟩,hset,β2,G2.rel,X1.trans X2⟩
                      | ret =>
                        simp only [Option.map_eq_some_iff] at he
                        obtain ⟨v,hv',rfl⟩:=he
                        simp only [exitRel] at hx2'
                        subst hx2'
                        obtain ⟨rv,hrr,hrv⟩:=results_run G2 hars hv'
                        exact ⟨by rw [hd2,hd1,hds],u',rfl,rv,hrr,⟨rv,rfl⟩,hset,β2,G2.rel,X1.trans X2⟩
                      | exit id=>simp at he
                      | panic v=>simp at he
                cases pan with
                | none =>
                  simp only at hu
                  subst hu
                  have hrd:recoverD (c₀::cs)=none:=by simp [recoverD,hmode]
                  rw [hrd]
                  simp only
                  have:=main .nilIface .returning (by simp [vrel]) rfl
                  have hc0:({ c₀ with mode:=FrameMode.returning }:Frame)=c₀:=by rw [←hmode]
                  rw [hc0] at this
                  exact this
                | some v =>
                  simp only at hu
                  obtain ⟨x,rfl,hx⟩:=hu
                  have hrd:recoverD (c₀::cs)=some (x,{ c₀ with mode:=.panicking ({ v:=x,recovered:=true }::[]) }::cs):=by simp [recoverD,hmode]
                  rw [hrd]
                  simp only
                  exact main x _ hx (by simp [settle])
              · simp at hr
            · simp at hr
          · simp at hr
        · simp at hr
theorem soundR {P:Program} {AP:AProg} (ok:ProgOk P AP):∀ n,SoundCall P (run AP n)∧SoundLoop P n (run AP n)∧SoundLate P (run AP n)∧SoundLoopR P n (run AP n)
 | 0=>⟨⟨fun id args h v h' he=>by simp [run] at he,fun f args h res h' he=>by simp [run] at he⟩,fun b s x s' he=>by simp [run] at he,fun f args pan h h' he=>by simp [run] at he,fun b s x s' he=>by simp [run] at he⟩
 | n+1=>by
  obtain ⟨SC,SL,ST,SLR⟩:=soundR ok n
  refine ⟨sim_call ok SC SL SLR ST,?_,sim_rcv ok SC SL,?_⟩
  rotate_left
  ·intro b s x s' he N mb hb β w a G hN Q hQ
   simp only [run,ex] at he
   rw [roundsIn_succ]
   cases hp1:ex (run AP n) b s with
   | none=>rw [hp1] at he;simp at he
   | some y =>
    obtain ⟨x1,s1⟩:=y
    rw [hp1] at he
    refine sim_codeR SC SL SLR ok.fol mb b hb s x1 s1 hp1 β w a G hN _ ?_
    intro e a1 w1 F
    cases x1 with
    | normal =>
     simp only at he
     obtain ⟨β1,Ds1,G1,X1,hd1,M1,hD1,hN1,hx1⟩:=F
     simp only [exitRel] at hx1
     subst hx1
     simp only [Exit.then]
     exact SLR b s1 x s' he N mb hb β1 w1 a1 G1 hN1 Q (fun e a' w' F2=>hQ e a' w' (by rw [hd1] at F2;exact FinR.trans X1 M1 hD1 F2))
    | exit id =>
     simp only [Option.some.injEq,Prod.mk.injEq] at he
     obtain ⟨rfl,rfl⟩:=he
     have F':=F
     obtain ⟨β1,Ds1,G1,X1,hd1,M1,hD1,hN1,hx1⟩:=F
     simp only [exitRel] at hx1
     subst hx1
     exact hQ _ _ _ F'
    | ret =>
     simp only [Option.some.injEq,Prod.mk.injEq] at he
     obtain ⟨rfl,rfl⟩:=he
     have F':=F
     obtain ⟨β1,Ds1,G1,X1,hd1,M1,hD1,hN1,hx1⟩:=F
     simp only [exitRel] at hx1
     subst hx1
     exact hQ _ _ _ F'
    | panic v =>
     simp only [Option.some.injEq,Prod.mk.injEq] at he
     obtain ⟨rfl,rfl⟩:=he
     have F':=F
     obtain ⟨β1,Ds1,G1,X1,hd1,M1,hD1,hN1,v',hx1,_⟩:=F
     subst hx1
     exact hQ _ _ _ F'
  intro b s x s' he N mb hb β w a G hN Q hQ ρ
  simp only [run,ex] at he
  rw [roundsIn_succ]
  cases hp1:ex (run AP n) b s with
  | none=>rw [hp1] at he;simp at he
  | some y =>
   obtain ⟨x1,s1⟩:=y
   rw [hp1] at he
   refine sim_code SC SL ok.fol mb b hb s x1 s1 hp1 β w a G hN _ ?_
   intro e a1 w1 F
   cases x1 with
   | normal =>
    simp only at he
    obtain ⟨β1,G1,X1,hd1,hN1,hx1⟩:=F
    simp only [exitRel] at hx1
    subst hx1
    simp only [Exit.then]
    exact SL b s1 x s' he N mb hb β1 w1 a1 G1 hN1 Q (fun e a' w' F2=>hQ e a' w' (by rw [hd1] at F2;exact F2.trans X1)) ρ
   | exit id =>
    simp only [Option.some.injEq,Prod.mk.injEq] at he
    obtain ⟨rfl,rfl⟩:=he
    have F':=F
    obtain ⟨β1,G1,X1,hd1,hN1,hx1⟩:=F
    simp only [exitRel] at hx1
    subst hx1
    exact hQ _ _ _ F'
   | ret =>
    simp only [Option.some.injEq,Prod.mk.injEq] at he
    obtain ⟨rfl,rfl⟩:=he
    have F':=F
    obtain ⟨β1,G1,X1,hd1,hN1,hx1⟩:=F
    simp only [exitRel] at hx1
    subst hx1
    exact hQ _ _ _ F'
   | panic v =>
    simp only [Option.some.injEq,Prod.mk.injEq] at he
    obtain ⟨rfl,rfl⟩:=he
    have F':=F
    obtain ⟨β1,G1,X1,hd1,hN1,v',hx1,_⟩:=F
    subst hx1
    exact hQ _ _ _ F'
theorem sound {P:Program} {AP:AProg} (ok:ProgOk P AP) (n:Nat):SoundCall P (run AP n)∧SoundLoop P n (run AP n)∧SoundLate P (run AP n):=⟨(soundR ok n).1,(soundR ok n).2.1,(soundR ok n).2.2.1⟩
end Go.AM
namespace Go.AM
open Go.RowKit
set_option linter.unusedVariables false
def heap0 (P:Program) (G:Nat):AHeap:=⟨G,G,.nil,compC P⟩
def pl0:Pl:=fun i=>⟨i,0,0⟩
theorem rel0 (P:Program) (G:Nat) (w:World):Rel (heap0 P G) pl0 w where
 obj:=fun id _=>by show orel _ _ _ _ .hole;trivial
 inj:=fun i j _ _ _ ho=>by cases ho
 top:=fun _ _=>rfl
 glob:=fun i hi=>⟨hi,rfl,rfl,rfl,rfl⟩
theorem Ext.grown {h:AHeap} {β:Pl} {w:World} {h':AHeap} {β':Pl} {w':World} (X:Ext h β w h' β' w') (hno:∀ id,id<h.n→(h.get id).own=false):Grown w w':=by
 have hk:∀ b,b<w.heap.size→w'.heap[b]?=w.heap[b]?:=fun b hb=>X.keep b hb fun id hid ho=>by rw [hno id hid] at ho;cases ho
 refine ⟨⟨X.os,X.out,fun i hi=>?_⟩,X.fz,X.size⟩
 rw [hk i hi]
 cases w.heap[i]? with
 | none=>trivial
 | some o=>cases o<;>simp
def ofList:List (Nat×AFun)→AProg
 | []=>.nil
 | (i,f)::l=>Tr.set (ofList l) i f
theorem ofList_mem:∀ {l:List (Nat×AFun)} {i:Nat} {f:AFun},Tr.get (ofList l) i=some f→(i,f)∈l
 | [],i,f,h=>by simp [ofList,Tr.get] at h
 | (j,g)::l,i,f,h=>by
  simp only [ofList,Tr.get_set] at h
  split at h
  ·rename_i e;subst e;cases h;exact List.mem_cons_self
  ·exact List.mem_cons_of_mem _ (ofList_mem h)
theorem ofList_ok {P : Program} {l : List (Nat × AFun)} (h : ∀ p ∈ l, ∃ fn, P.funcs[p.1]? = some fn ∧ (fn.name == "runtime.NumGoroutine") = false ∧ cFun P fn = some p.2) :
    ∀ f afn,Tr.get (ofList l) f=some afn→∃ fn,P.funcs[f]?=some fn∧(fn.name=="runtime.NumGoroutine")=false∧cFun P fn=some afn :=
  fun f afn hg=>h (f,afn) (ofList_mem hg)
end Go.AM